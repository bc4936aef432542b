import Derived.Test.YtjnjppikhdfomaaM6
import Derived.Laws.Rows
set_option linter.unusedVariables false
set_option linter.unusedSimpArgs false

namespace Go.Proofs.Ytjnjppikhdfomaa
open Go Go.RowKit Go.Proofs B Rng
namespace Ref
open Swp

theorem infoByte : (Try.prog.info? 5).map (fun i => (i.zero, i.size, i.bytes)) = some (some (.int .u8 0), 1, 1) := by kernel_rfl

theorem infoTile : (Try.prog.info? 24).map (·.size) = some 3 := by kernel_rfl

/-- A tile of the program's own making. -/
def OwnT (w : World) (W H : Int) (C : List Int) (e : Ending) (w' : World) : Prop := ∃ A c, e = .returned (.agg #[.int .i64 W, .int .i64 H, .slice A C.length c]) ∧ RdN w' .u8 A C ∧ Nw w w' ∧ (∀ g o, A = some ⟨g, o, none⟩ → w.heap.size ≤ g)

theorem rdn_of_own {w : World} {k : IntKind} {e : TypeId} {v : Value} {C : List Int} (h : Own w e 1 v C.length (C.map (Value.int k))) : ∃ A c, v = .slice A C.length c ∧ RdN w k A C := by
  obtain ⟨A, c, rfl, hA, _⟩ := h.slice
  refine ⟨A, c, rfl, fun x l e => ?_⟩
  obtain ⟨g, rfl⟩ := hA (by rw [e]; simp)
  exact ⟨g, 0, rfl, fun j y hy => h.cells (g := g) rfl _ _ (by rw [Nat.zero_add, List.getElem?_map, hy]; rfl)⟩

set_option maxRecDepth 100000 in
set_option maxHeartbeats 2000000 in
theorem ownTile_any (W H : Int) (A : Option Addr) (C : List Int) (cap : Nat) (w : World) (h : RdN w .u8 A C) (hl : C.length ≤ 1048576) :
    Calls Try.prog 6 #[.agg #[.int .i64 W, .int .i64 H, .slice A C.length cap]] w (OwnT w W H C) := by
  obtain ⟨i0, hi, hz0, hz1, hz2⟩ := info_parts infoByte
  cases A with
  | none =>
    have hC : C = [] := by
      cases C with
      | nil => rfl
      | cons x l => obtain ⟨b, o, e, _⟩ := h x l rfl; simp at e
    subst hC
    clear h
    go_enter Try.func6, Try.ntmps6
    go_wp2_with fail
    (try simp only [Exit.inBlock, Exit.then])
    have hr : Row (((w.alloc (.cells #[.int .i64 W, .int .i64 H, .slice (some ⟨w.heap.size + 1 + 1, 0, none⟩) 0 0] 24)).alloc (.cells #[.int .i64 W, .int .i64 H, .slice (some ⟨w.heap.size + 1 + 1, 0, none⟩) 0 0] 24)).alloc (.cells #[] 5)) (w.heap.size + 1) 24 #[.int .i64 W, .int .i64 H, .slice (some ⟨w.heap.size + 1 + 1, 0, none⟩) 0 0] := by
      have := (Row.new (w.alloc (.cells #[.int .i64 W, .int .i64 H, .slice (some ⟨w.heap.size + 1 + 1, 0, none⟩) 0 0] 24)) #[.int .i64 W, .int .i64 H, .slice (some ⟨w.heap.size + 1 + 1, 0, none⟩) 0 0] 24).alloc (.cells #[] 5)
      rw [size_alloc] at this
      exact this
    refine bodyPost_ret (results_cell_row rfl _ _ (w.heap.size + 1) 24 #[.int .i64 W, .int .i64 H, .slice (some ⟨w.heap.size + 1 + 1, 0, none⟩) 0 0] (0, 0) _ rfl hr Try.underlying24 rfl infoTile) rfl ?_
    exact ⟨some ⟨w.heap.size + 1 + 1, 0, none⟩, 0, rfl, fun x l e => by simp at e, ((Nw.alloc _ _).trans (Nw.alloc _ _)).trans (Nw.alloc _ _), fun g o e => by injection e with e; injection e with e1 e2; omega⟩
  | some A =>
    have hW : Hid (∀ V : World, V = ((w.alloc (.cells #[.int .i64 W, .int .i64 H, .slice (some A) C.length cap] 24)).alloc (.cells #[.int .i64 0, .int .i64 0, .slice none 0 0] 24)) → Nw w V ∧ V.heap.size = w.heap.size + 1 + 1 ∧ Row V w.heap.size 24 #[.int .i64 W, .int .i64 H, .slice (some A) C.length cap] ∧ Row V (w.heap.size + 1) 24 #[.int .i64 0, .int .i64 0, .slice none 0 0]) := fun V hV => by
      subst hV
      refine ⟨(Nw.alloc _ _).trans (Nw.alloc _ _), by simp, (Row.new w _ _).alloc _, ?_⟩
      have := Row.new (w.alloc (.cells #[.int .i64 W, .int .i64 H, .slice (some A) C.length cap] 24)) #[.int .i64 0, .int .i64 0, .slice none 0 0] 24
      rw [size_alloc] at this
      exact this
    have HO : Hid (∀ V : World, Own (V.alloc (.cells #[] 5)) 5 1 (.slice (some ⟨V.heap.size, 0, none⟩) 0 0) 0 []) := fun V => ⟨rfl, .inr ⟨V.heap.size, 0, #[], rfl, Nat.zero_le _, Row.new V _ _, Nat.le_refl _, Nat.zero_le _, rfl, rfl⟩⟩
    have HC : Hid (∀ V : World, Nw w V → ∀ (j : Nat) (u : Value), (C.map (Value.int .u8))[j]? = some u → V.cell? (A.add j) = some u) := fun V hV j u hu => by
      cases C with
      | nil => simp at hu
      | cons x l' =>
        obtain ⟨b, o, e, hc⟩ := (h.nw hV) x l' rfl
        injection e with e
        subst e
        have hadd : (⟨b, o, none⟩ : Addr).add j = ⟨b, o + j, none⟩ := by unfold Addr.add; split <;> simp_all
        rw [hadd]
        rw [List.getElem?_map] at hu
        cases hj : (x :: l')[j]? with
        | none => rw [hj] at hu; simp at hu
        | some y => rw [hj] at hu; simp at hu; subst hu; exact hc j y hj
    have h1 : ∀ u ∈ C.map (Value.int .u8), u.oneCell' = true := fun u hu => by
      obtain ⟨y, _, rfl⟩ := List.mem_map.1 hu; rfl
    have H1 := Lib.hid h1
    have HL : Hid ((C.map (Value.int .u8)).length = C.length * 1) := by show _ = _; simp
    have HFIN : Hid (∀ (V : World) v, Own V 5 1 v C.length (C.map (Value.int .u8)) → Nw w V → (∀ g, v.ownBlock = some g → w.heap.size ≤ g) → OwnT w W H C (.returned (.agg #[.int .i64 W, .int .i64 H, v])) V) := fun V v ho hn hg => by
      obtain ⟨A', c, rfl, hr⟩ := rdn_of_own ho
      refine ⟨A', c, rfl, hr, hn, fun g o e => hg g ?_⟩
      subst e; rfl
    clear h h1
    generalize C.map (Value.int .u8) = xs at *
    generalize C.length = n at *
    generalize OwnT w W H C = post at *
    go_enter Try.func6, Try.ntmps6
    obtain ⟨n1, n2, r1, r2⟩ := hW.out _ rfl
    have HB0 : Hid (Nw w (((w.alloc (.cells #[.int .i64 W, .int .i64 H, .slice (some A) n cap] 24)).alloc (.cells #[.int .i64 0, .int .i64 0, .slice none 0 0] 24)).alloc (.cells #[] 5))) := n1.trans (Nw.alloc _ _)
    have ra := r1.alloc (.cells #[] 5)
    have rb := r2.alloc (.cells #[] 5)
    have RA := Lib.hid ra
    have RB := Lib.hid rb
    have ho0 := HO.out ((w.alloc (.cells #[.int .i64 W, .int .i64 H, .slice (some A) n cap] 24)).alloc (.cells #[.int .i64 0, .int .i64 0, .slice none 0 0] 24))
    rw [n2] at ho0
    have HO0 := Lib.hid ho0
    have HN2 := Lib.hid n2
    clear hW n1 r1 r2 ra rb HO ho0 n2
    go_wp2_with (refine wpL_append rfl (.tmp 3) (.tmp 5) 22 rfl 5 i0 _ 1 1 Try.underlying22 hi hz0 hz1 hz2 rfl (.slice (some ⟨w.heap.size + 1 + 1, 0, none⟩) 0 0) 0 [] rfl HO0.out A n cap xs rfl HL.out (HC.out _ HB0.out) H1.out ?b1 ?b2 ?_)
    case b1 => unfold maxLen; omega
    case b2 => omega
    intro v w2 ho hgr hblk _ _
    obtain ⟨A', c', rfl, -⟩ := ho.slice
    have hvb : (Value.slice (some ⟨w.heap.size + 1 + 1, 0, none⟩) 0 0).ownBlock = some (w.heap.size + 1 + 1) := rfl
    have n3 := HN2.out
    rw [hvb] at hgr hblk
    have ra := RA.out.grown hgr (by intro e; injection e with e; omega)
    have rb := RB.out.grown hgr (by intro e; injection e with e; omega)
    have hnw : Nw w w2 := Fr.grown HB0.out hgr (fun k hk hlt => by injection hk with hk; omega)
    have d0 : w2.cell? ⟨w.heap.size, 0, none⟩ = some (.int .i64 W) := ra.cell 0
    have d1 : w2.cell? ⟨w.heap.size, 1, none⟩ = some (.int .i64 H) := ra.cell 1
    have d2 : w2.cell? ⟨w.heap.size, 2, none⟩ = some (.slice (some A) n cap) := ra.cell 2
    have e0 : w2.cell? ⟨w.heap.size + 1, 0, none⟩ = some (.int .i64 0) := rb.cell 0
    have e1 : w2.cell? ⟨w.heap.size + 1, 1, none⟩ = some (.int .i64 0) := rb.cell 1
    have e2 : w2.cell? ⟨w.heap.size + 1, 2, none⟩ = some (.slice none 0 0) := rb.cell 2
    have f2 : w2.frozen? ⟨w.heap.size, 2, none⟩ = false := ra.free 2
    have g0 : w2.frozen? ⟨w.heap.size + 1, 0, none⟩ = false := rb.free 0
    have g1 : w2.frozen? ⟨w.heap.size + 1, 1, none⟩ = false := rb.free 1
    have g2 : w2.frozen? ⟨w.heap.size + 1, 2, none⟩ = false := rb.free 2
    have RB2 := Lib.hid rb
    have HNW := Lib.hid hnw
    have HO2 := Lib.hid ho
    have HG2 : Hid (∀ g, (Value.slice A' n c').ownBlock = some g → w.heap.size + 1 < g) := fun g hg => by
      rcases hblk with hb | hb
      · rw [hb] at hg; injection hg with hg; omega
      · rw [hb] at hg; injection hg with hg; omega
    clear ra rb hnw ho hgr hblk RA RB HO0 HC HB0 HL H1 hvb
    go_wp2_with fail
    (try simp only [Exit.inBlock, Exit.then])
    have hr := (((RB2.out.setOther (a := ⟨w.heap.size, 2, none⟩) (.slice A' n c') (by show w.heap.size ≠ w.heap.size + 1; omega)).set 0 (.int .i64 W)).set 1 (.int .i64 H)).set 2 (.slice A' n c')
    refine bodyPost_ret (results_cell_row rfl _ _ (w.heap.size + 1) 24 #[.int .i64 W, .int .i64 H, .slice A' n c'] (0, 0) _ rfl hr Try.underlying24 rfl infoTile) rfl ?_
    have hf : Fr (fun k => k = w.heap.size ∨ k = w.heap.size + 1) w2 ((((w2.setCell ⟨w.heap.size, 2, none⟩ (.slice A' n c')).setCell ⟨w.heap.size + 1, 0, none⟩ (.int .i64 W)).setCell ⟨w.heap.size + 1, 1, none⟩ (.int .i64 H)).setCell ⟨w.heap.size + 1, 2, none⟩ (.slice A' n c')) :=
      Fr.setCell (Fr.setCell (Fr.setCell (Fr.setCell (Fr.refl _ w2) (fun _ => .inl rfl) _) (fun _ => .inr rfl) _) (fun _ => .inr rfl) _) (fun _ => .inr rfl) _
    refine HFIN.out _ _ (HO2.out.fr hf (fun k hk hF => by have := HG2.out k hk; omega)) (Fr.trans HNW.out hf (fun k hk hF => by omega)) (fun k hk => by have := HG2.out k hk; omega)
end Ref
end Go.Proofs.Ytjnjppikhdfomaa

namespace Go.Proofs.Ytjnjppikhdfomaa
open Go Go.RowKit Go.Proofs B Rng
namespace Ref
open Swp

set_option maxRecDepth 100000 in
set_option maxHeartbeats 1000000 in
theorem within_ex (n lo hi : Int) (h0 : 0 ≤ lo) (h1 : lo ≤ hi) (h2 : hi ≤ 1099511627776) : ∃ r, (lo ≤ r ∧ r ≤ hi) ∧ ∀ w, Calls Try.prog 15 #[.int .i64 n, .int .i64 lo, .int .i64 hi] w fun e w' => e = .returned (.int .i64 r) ∧ w = w' := by
  obtain ⟨q, hq⟩ : ∃ q, n.tmod (hi - lo + 1) = q := ⟨_, rfl⟩
  have q1 : q < hi - lo + 1 := by rw [← hq]; exact Int.tmod_lt_of_pos n (by omega)
  have q2 : -(hi - lo + 1) < q := by
    have := Int.lt_tmod_of_pos n (b := hi - lo + 1) (by omega); rw [hq] at this; exact this
  have hne : ¬ hi - lo + 1 = 0 := by omega
  by_cases hs : q < 0
  · refine ⟨lo + (q + hi - lo + 1), ⟨by omega, by omega⟩, fun w => ?_⟩
    go_enter Try.func15, Try.ntmps15
    go_wp2
    go_ret
    exact ⟨rfl, rfl⟩
  · refine ⟨lo + q, ⟨by omega, by omega⟩, fun w => ?_⟩
    go_enter Try.func15, Try.ntmps15
    go_wp2
    go_ret
    exact ⟨rfl, rfl⟩
theorem within_fun (lo hi : Int) (h0 : 0 ≤ lo) (h1 : lo ≤ hi) (h2 : hi ≤ 1099511627776) : ∃ f : Int → Int, (∀ n, lo ≤ f n ∧ f n ≤ hi) ∧ ∀ n w, Calls Try.prog 15 #[.int .i64 n, .int .i64 lo, .int .i64 hi] w fun e w' => e = .returned (.int .i64 (f n)) ∧ w = w' :=
  ⟨fun n => Classical.choose (within_ex n lo hi h0 h1 h2), fun n => (Classical.choose_spec (within_ex n lo hi h0 h1 h2)).1, fun n => (Classical.choose_spec (within_ex n lo hi h0 h1 h2)).2⟩

/-- append as one step of a region that draws. -/
theorem step_append {P : Program} {ops : Array Oper} {w : World} {o : Oper} {a : Act} {K : Act → World → Prop} {Q : Exit → Act → World → Prop} {E : Prop} (hgd : o.guard = none) (s x : Operand) (t : TypeId)
    (ho : o.op = .call { callee := .builtin .append, args := #[s, x], argTypes := #[t, t] })
    (e : TypeId) (i : TypeInfo) (z : Value) (size bytes : Nat) (ht : P.underlying t = some (.slice e)) (hi : P.info? e = some i) (hz : i.zero = some z)
    (hsize : i.size = size) (hby : i.bytes = bytes) (hzs : z.cells.size = size)
    (v : Value) (n : Nat) (xs : List Value) (hs : a.eval s = v) (hown : Own w e size v n xs)
    (ad : Addr) (m c : Nat) (news : List Value) (hx : a.eval x = .slice (some ad) m c) (hl : news.length = m * size) (hnews : ∀ j u, news[j]? = some u → w.cell? (ad.add j) = some u) (h1 : ∀ u ∈ news, u.oneCell' = true)
    (h63 : n + m ≤ maxLen) (hbytes : (n + m) * bytes ≤ 140737488355328)
    (h : ∀ v' w', Own w' e size v' (n + m) (xs ++ news) → w.grownBy w' v.ownBlock → (v'.ownBlock = v.ownBlock ∨ v'.ownBlock = some w.heap.size) → (0 < n + m → v'.ownBlock ≠ none) → (v' = .slice none 0 0 ↔ v = .slice none 0 0 ∧ m = 0) → K (a.put o.dst v') w') : if Region.wanted o (yielded ops a.tmps) = true then Oper.wp P o a w K Q else E := by
  have hw : Region.wanted o (yielded ops a.tmps) = true := by simp [Region.wanted, hgd]
  rw [if_pos hw]
  exact wp_append s x t ho e i z size bytes ht hi hz hsize hby hzs v n xs hs hown ad m c news hx hl hnews h1 h63 hbytes h

theorem news_one {w : World} {b : Nat} {x : Value} (h : w.cell? ⟨b, 0, none⟩ = some x) : ∀ (j : Nat) (u : Value), [x][j]? = some u → w.cell? ((⟨b, 0, none⟩ : Addr).add j) = some u := by
  intro j u hu
  cases j with
  | zero => simp at hu; subst hu; exact h
  | succ j => simp at hu
theorem one_u8 (r : Int) : ∀ u ∈ [Value.int .u8 r], u.oneCell' = true := by
  intro u hu; simp at hu; subst hu; rfl

/-- The tile that is being made. -/
structure TAt (w0 w : World) (T6 T7 : Nat) (W H : Int) (v : Value) (C : List Int) : Prop where
  nw : Nw w0 w
  row6 : Row w T6 24 #[.int .i64 0, .int .i64 0, .slice none 0 0]
  row7 : Row w T7 24 #[.int .i64 W, .int .i64 H, v]
  own : Own w 5 1 v C.length (C.map (Value.int .u8))
  bytes : ∀ b ∈ C, 0 ≤ b ∧ b ≤ 255
  n6 : w0.heap.size ≤ T6
  n7 : w0.heap.size ≤ T7
  ne : T6 ≠ T7
  blk : ∀ g, v.ownBlock = some g → w0.heap.size ≤ g ∧ g ≠ T6 ∧ g ≠ T7

theorem TAt.next {w0 w w2 : World} {T6 T7 : Nat} {W H : Int} {v v' : Value} {C : List Int} {r : Int} (h : TAt w0 w T6 T7 W H v C) (hr : 0 ≤ r ∧ r ≤ 255) {wa : World} (ha : Nw w wa)
    (ho : Own w2 5 1 v' (C.length + 1) (C.map (Value.int .u8) ++ [.int .u8 r])) (hg : wa.grownBy w2 v.ownBlock) (hb : v'.ownBlock = v.ownBlock ∨ v'.ownBlock = some wa.heap.size) :
    TAt w0 (w2.setCell ⟨T7, 2, none⟩ v') T6 T7 W H v' (C ++ [r]) := by
  have l6 := Nat.lt_of_lt_of_le h.row6.lt ha.size
  have l7 := Nat.lt_of_lt_of_le h.row7.lt ha.size
  have q6 : some T6 ≠ v.ownBlock := fun e => (h.blk T6 e.symm).2.1 rfl
  have q7 : some T7 ≠ v.ownBlock := fun e => (h.blk T7 e.symm).2.2 rfl
  have hblk : ∀ g, v'.ownBlock = some g → w0.heap.size ≤ g ∧ g ≠ T6 ∧ g ≠ T7 := fun g e => by
    rcases hb with hb | hb
    · rw [hb] at e; exact h.blk g e
    · rw [hb] at e; injection e with e; subst e
      exact ⟨Nat.le_trans h.nw.size ha.size, by omega, by omega⟩
  have hf : Fr (fun k => k = T7) w2 (w2.setCell ⟨T7, 2, none⟩ v') := (Fr.refl (fun k => k = T7) w2).setCell (p := ⟨T7, 2, none⟩) (fun _ => rfl) _
  have hn2 : Nw w0 w2 := Fr.grown (h.nw.trans ha) hg (fun k hk hlt => by have := (h.blk k hk).1; omega)
  refine { nw := Fr.setCell hn2 (p := ⟨T7, 2, none⟩) (fun hlt => by have := h.n7; simp at hlt; omega) _, row6 := ?_, row7 := ?_, own := ?_, bytes := ?_, n6 := h.n6, n7 := h.n7, ne := h.ne, blk := hblk }
  · exact ((h.row6.fr ha (fun h => h)).grown hg q6).fr hf h.ne
  · have := ((h.row7.fr ha (fun h => h)).grown hg q7).set 2 v'
    simpa using this
  · rw [List.length_append, List.map_append]
    exact ho.fr hf (fun k hk e => (hblk k hk).2.2 e)
  · intro b hb'
    rw [List.mem_append] at hb'
    rcases hb' with h' | h'
    · exact h.bytes b h'
    · simp at h'; subst h'; exact hr

/-- What MadeTile tells. -/
def MadeP (w : World) (e : Ending) (w' : World) : Prop := ∃ W H A C c, e = .returned (.agg #[.int .i64 W, .int .i64 H, .slice A C.length c]) ∧ RdN w' .u8 A C ∧ 1 ≤ C.length ∧ C.length ≤ 256 ∧ (∀ b ∈ C, 0 ≤ b ∧ b ≤ 255) ∧ Nw w w'

set_option maxRecDepth 100000 in
set_option maxHeartbeats 4000000 in
theorem madeTile_any (W0 H0 : Int) (A : Option Addr) (B : List Int) (cap : Nat) (w : World) (h : RdN w .u8 A B) (hl : B.length ≤ 1048576) (hb : ∀ b ∈ B, 0 ≤ b ∧ b ≤ 255) :
    Calls Try.prog 7 #[.int .i64 W0, .int .i64 H0, .slice A B.length cap] w (MadeP w) := by
  obtain ⟨i0, hi, hz0, hz1, hz2⟩ := info_parts infoByte
  obtain ⟨wf, hwf, hwc⟩ := within_fun 1 16 (by omega) (by omega) (by omega)
  have HI := fun n w => Lib.hid (hwc n w)
  obtain ⟨rW0, rW1⟩ := hwf W0
  obtain ⟨r0, r1⟩ := hwf H0
  clear hwf hwc
  have HC := fun x w h0 h1 => Lib.hid (cost_any x w h0 h1)
  unfold CostP at HC
  have HRD := Lib.hid h
  have HBB := Lib.hid hb
  clear h hb
  generalize hn : B.length = n at *
  generalize hpost : MadeP w = post at *
  have HPOST := Lib.hid hpost
  clear hpost
  go_enter Try.func7, Try.ntmps7
  go_wp2_with (go_at_call 15; refine ((HI _ _).out).mono ?_; rintro e w' ⟨rfl, rfl⟩)
  generalize wf W0 = rW at *
  generalize wf H0 = rH at *
  clear HI
  obtain ⟨M, hM⟩ : ∃ M : Nat, rW * rH = (M : Int) := ⟨(rW * rH).toNat, by have := Int.mul_nonneg (show 0 ≤ rW by omega) (show 0 ≤ rH by omega); omega⟩
  have hM1 : 1 ≤ M := by have := Int.mul_pos (show 0 < rW by omega) (show 0 < rH by omega); omega
  have hM2 : M ≤ 256 := by have : rW * rH ≤ 16 * 16 := Int.mul_le_mul rW1 r1 (by omega) (by omega); omega
  have HST : Hid (TAt w ((w.alloc (.cells #[.int .i64 0, .int .i64 0, .slice none 0 0] 24)).alloc (.cells #[.int .i64 rW, .int .i64 rH, .slice none 0 0] 24)) w.heap.size (w.heap.size + 1) rW rH (.slice none 0 0) []) := by
    refine { nw := (Nw.alloc _ _).trans (Nw.alloc _ _), row6 := (Row.new w _ _).alloc _, row7 := ?_, own := Own.nil _ _ _, bytes := fun b hb => by simp at hb, n6 := Nat.le_refl _, n7 := by omega, ne := by omega, blk := fun g hg => by simp [Value.ownBlock] at hg }
    have := Row.new (w.alloc (.cells #[.int .i64 0, .int .i64 0, .slice none 0 0] 24)) #[.int .i64 rW, .int .i64 rH, .slice none 0 0] 24
    rw [size_alloc] at this
    exact this
  generalize hT7 : w.heap.size + 1 = T7 at *
  generalize w.heap.size = T6 at *
  clear hT7
  go_loopg [8] M (fun gh x8 wr => ∃ (k : Nat) (v : Value) (C : List Int), k ≤ M ∧ gh + k = M ∧ C.length = k ∧ x8 = .int .i64 k ∧ Hid (TAt w wr T6 T7 rW rH v C))
  case atStart => exact ⟨0, _, [], Nat.zero_le _, by omega, rfl, rfl, HST⟩
  case round =>
    clear HST
    obtain ⟨k, v, C, hk, hg, hCk, rfl, hT⟩ := hrel
    have c0 : wr.cell? ⟨T7, 0, none⟩ = some (.int .i64 rW) := hT.out.row7.cell 0
    have c1 : wr.cell? ⟨T7, 1, none⟩ = some (.int .i64 rH) := hT.out.row7.cell 1
    have c2 : wr.cell? ⟨T7, 2, none⟩ = some v := hT.out.row7.cell 2
    by_cases hlt : k < M
    · have i1 : (k : Int) < M := by omega
      have HNX : Hid (∀ r wa w2 v', 0 ≤ r ∧ r ≤ 255 → Nw wr wa → Own w2 5 1 v' (C.length + 1) (C.map (Value.int .u8) ++ [.int .u8 r]) → wa.grownBy w2 v.ownBlock → (v'.ownBlock = v.ownBlock ∨ v'.ownBlock = some wa.heap.size) → TAt w (w2.setCell ⟨T7, 2, none⟩ v') T6 T7 rW rH v' (C ++ [r])) := fun r wa w2 v' a b c d e => hT.out.next a b c d e
      have HOW : Hid (∀ V, Nw wr V → Own V 5 1 v C.length (C.map (Value.int .u8))) := fun V hV => hT.out.own.fr hV (fun _ _ h => h)
      have HZ : Hid (∀ wa w2, Nw wr wa → wa.grownBy w2 v.ownBlock → (w2.cell? ⟨T7, 2, none⟩ = some v ∧ w2.frozen? ⟨T7, 2, none⟩ = false)) := fun wa w2 ha hg => by
        have := (hT.out.row7.fr ha (fun h => h)).grown hg (fun e => (hT.out.blk T7 e.symm).2.2 rfl)
        exact ⟨this.cell 2, this.free 2⟩
      obtain ⟨Av, cv, rfl, -⟩ := hT.out.own.slice
      have hrd := HRD.out.nw hT.out.nw
      clear hT
      rw [hCk] at HNX HOW HZ c2
      have c2a : ∀ o, (wr.alloc o).cell? ⟨T7, 2, none⟩ = some (.slice Av k cv) := fun o => (Nw.alloc wr o).cell c2
      by_cases hn0 : n = 0
      · subst hn0
        clear hrd
        have HCC := fun w => HC 1 w (by omega) (by omega)
        go_wp2_with fail
        go_region_law (first | (go_simp; go_at_call 26; refine ((HCC _).out).mono ?_; rintro e w' ⟨r, rfl, z0, z1, rfl⟩) | (refine step_append rfl (.tmp 41) (.tmp 44) 22 rfl 5 i0 _ 1 1 Try.underlying22 hi hz0 hz1 hz2 rfl (.slice Av k cv) k (C.map (Value.int .u8)) (by simp [Act.eval, Act.put]) (HOW.out _ (by first | exact Fr.drew (Nw.alloc _ _) | exact Nw.alloc _ _)) ⟨wr.heap.size, 0, none⟩ 1 1 [.int .u8 r] (by simp [Act.eval, Act.put]) rfl (news_one (by first | exact cell_new _ _ _ 0 _ rfl | exact cell_newn _ _ _ 0 _ rfl)) (one_u8 _) (by unfold maxLen; omega) (by omega) ?_; intro v2 w2 ho hg hb _ _; have hnx := HNX.out r _ w2 v2 ⟨z0, z1⟩ (by first | exact Fr.drew (Nw.alloc _ _) | exact Nw.alloc _ _) ho hg hb; have HNX2 := Lib.hid hnx; have zz := HZ.out _ w2 (by first | exact Fr.drew (Nw.alloc _ _) | exact Nw.alloc _ _) hg; obtain ⟨zz1, zz2⟩ := zz; obtain ⟨A2, c2, rfl, -⟩ := ho.slice; clear ho hg hb hnx))
        all_goals
          clear HNX HOW HZ HCC HC HRD HBB HPOST
          go_wp2
          go_roundg (gk - 1)
          case measure => omega
          case rel => exact ⟨k + 1, _, C ++ [r], by omega, by omega, by simp; omega, by go_num, HNX2⟩
      · obtain ⟨q, hq⟩ : ∃ q : Nat, q = k / n := ⟨_, rfl⟩
        obtain ⟨jj, hj⟩ : ∃ jj : Nat, jj = (k + q * 5) % n := ⟨_, rfl⟩
        have hqk : q ≤ k := by rw [hq]; exact Nat.div_le_self _ _
        have hjn : jj < n := by rw [hj]; exact Nat.mod_lt _ (by omega)
        have e1 : (k : Int).tdiv n = q := by rw [Int.tdiv_eq_ediv_of_nonneg (by omega), hq]; exact (Int.natCast_ediv k n).symm
        have e2 : ((k : Int) + (q : Int) * 5).tmod n = jj := by rw [Int.tmod_eq_emod_of_nonneg (by omega), hj]; simp
        obtain ⟨ab, ao, rfl, cb⟩ := hrd.at (show jj < B.length by omega)
        have hy : B.getD jj 0 ∈ B := by
          rw [List.getD_eq_getElem?_getD, List.getElem?_eq_getElem (show jj < B.length by omega)]; exact List.getElem_mem _
        obtain ⟨y0, y1⟩ := HBB.out _ hy
        generalize B.getD jj 0 = y at *
        have HCC := fun w => HC y w y0 y1
        have p1 : (0 : Int) < n := by omega
        have p2 : (jj : Int) < n := by omega
        have p3 : ¬ (n : Int) = 0 := by omega
        clear hy hq hj hrd hn
        go_wp2_with fail
        go_region_law (first | (go_simp; go_at_call 26; refine ((HCC _).out).mono ?_; rintro e w' ⟨r, rfl, z0, z1, rfl⟩) | (refine step_append rfl (.tmp 41) (.tmp 44) 22 rfl 5 i0 _ 1 1 Try.underlying22 hi hz0 hz1 hz2 rfl (.slice Av k cv) k (C.map (Value.int .u8)) (by simp [Act.eval, Act.put]) (HOW.out _ (by first | exact Fr.drew (Nw.alloc _ _) | exact Nw.alloc _ _)) ⟨wr.heap.size, 0, none⟩ 1 1 [.int .u8 r] (by simp [Act.eval, Act.put]) rfl (news_one (by first | exact cell_new _ _ _ 0 _ rfl | exact cell_newn _ _ _ 0 _ rfl)) (one_u8 _) (by unfold maxLen; omega) (by omega) ?_; intro v2 w2 ho hg hb _ _; have hnx := HNX.out r _ w2 v2 ⟨z0, z1⟩ (by first | exact Fr.drew (Nw.alloc _ _) | exact Nw.alloc _ _) ho hg hb; have HNX2 := Lib.hid hnx; have zz := HZ.out _ w2 (by first | exact Fr.drew (Nw.alloc _ _) | exact Nw.alloc _ _) hg; obtain ⟨zz1, zz2⟩ := zz; obtain ⟨A2, c2, rfl, -⟩ := ho.slice; clear ho hg hb hnx))
        all_goals
          clear HNX HOW HZ HCC HC HRD HBB HPOST
          go_wp2
          go_roundg (gk - 1)
          case measure => omega
          case rel => exact ⟨k + 1, _, C ++ [r], by omega, by omega, by simp; omega, by go_num, HNX2⟩
    · obtain rfl : M = k := by omega
      have hnm : ¬ (M : Int) < M := by omega
      obtain ⟨Av, cv, rfl, hrd⟩ := rdn_of_own hT.out.own
      have d0 : wr.cell? ⟨T6, 0, none⟩ = some (.int .i64 0) := hT.out.row6.cell 0
      have d1 : wr.cell? ⟨T6, 1, none⟩ = some (.int .i64 0) := hT.out.row6.cell 1
      have d2 : wr.cell? ⟨T6, 2, none⟩ = some (.slice none 0 0) := hT.out.row6.cell 2
      have f0 : wr.frozen? ⟨T6, 0, none⟩ = false := hT.out.row6.free 0
      have f1 : wr.frozen? ⟨T6, 1, none⟩ = false := hT.out.row6.free 1
      have f2 : wr.frozen? ⟨T6, 2, none⟩ = false := hT.out.row6.free 2
      rw [hCk] at c2
      have hf : Fr (fun k => k = T6) wr (((wr.setCell ⟨T6, 0, none⟩ (.int .i64 rW)).setCell ⟨T6, 1, none⟩ (.int .i64 rH)).setCell ⟨T6, 2, none⟩ (.slice Av M cv)) :=
        Fr.setCell (p := ⟨T6, 2, none⟩) (Fr.setCell (p := ⟨T6, 1, none⟩) (Fr.setCell (p := ⟨T6, 0, none⟩) (Fr.refl (fun k => k = T6) wr) (fun _ => rfl) _) (fun _ => rfl) _) (fun _ => rfl) _
      have hown := hT.out.own.fr hf (fun g hg e => (hT.out.blk g hg).2.1 e)
      have hrd2 : RdN (((wr.setCell ⟨T6, 0, none⟩ (.int .i64 rW)).setCell ⟨T6, 1, none⟩ (.int .i64 rH)).setCell ⟨T6, 2, none⟩ (.slice Av M cv)) .u8 Av C := by
        obtain ⟨A', c', he, hr⟩ := rdn_of_own hown
        injection he with he1 he2 he3
        subst he1; exact hr
      have hrow := ((hT.out.row6.set 0 (.int .i64 rW)).set 1 (.int .i64 rH)).set 2 (.slice Av M cv)
      have HF : Hid (post (.returned (.agg #[.int .i64 rW, .int .i64 rH, .slice Av M cv])) (((wr.setCell ⟨T6, 0, none⟩ (.int .i64 rW)).setCell ⟨T6, 1, none⟩ (.int .i64 rH)).setCell ⟨T6, 2, none⟩ (.slice Av M cv))) := by
        rw [← HPOST.out]
        exact ⟨rW, rH, Av, C, cv, by rw [hCk], hrd2, by omega, by omega, hT.out.bytes, Fr.trans hT.out.nw hf (fun k hk e => by have := hT.out.n6; omega)⟩
      have HROW := Lib.hid hrow
      clear hT hrd hf hown hrd2 hrow HPOST HC HRD HBB
      go_wp2_with fail
      (try simp only [Exit.inBlock, Exit.then])
      refine bodyPost_ret (results_cell_row rfl _ _ T6 24 #[.int .i64 rW, .int .i64 rH, .slice Av M cv] (0, 0) _ rfl HROW.out Try.underlying24 rfl infoTile) rfl ?_
      exact HF.out
end Ref
end Go.Proofs.Ytjnjppikhdfomaa

namespace Go.Proofs.Ytjnjppikhdfomaa
open Go Go.RowKit Go.Proofs B Rng
namespace Ref
open Swp

/-- The seeds that have been made. -/
def SMade (W0 wr : World) (v : Value) (l : List Sd) : Prop := Nw W0 wr ∧ Own wr 52 3 v l.length (flatS l) ∧ ∀ g, v.ownBlock = some g → W0.heap.size ≤ g

theorem SMade.next {W0 wr wa w2 : World} {v v' : Value} {l : List Sd} {x : Sd} (h : SMade W0 wr v l) (ha : Nw W0 wa) (ho : Own w2 52 3 v' (l.length + 1) (flatS l ++ encS x)) (hg : wa.grownBy w2 v.ownBlock) (hb : v'.ownBlock = v.ownBlock ∨ ∃ g, v'.ownBlock = some g ∧ wa.heap.size ≤ g) : SMade W0 w2 v' (l ++ [x]) := by
  refine ⟨Fr.grown ha hg (fun k hk hlt => by have := h.2.2 k hk; omega), ?_, fun g e => ?_⟩
  · have e : flatS (l ++ [x]) = flatS l ++ encS x := by unfold flatS; simp
    rw [e, List.length_append]; exact ho
  · rcases hb with hb | ⟨g', hb, hg'⟩
    · rw [hb] at e; exact h.2.2 g e
    · rw [hb] at e; injection e with e; subst e; exact Nat.le_trans ha.size hg'

def SeedsP (w : World) (m : Nat) (e : Ending) (w' : World) : Prop := ∃ A l c, e = .returned (.slice A l.length c) ∧ RdS w' A l ∧ l.length ≤ m ∧ Nw w w'

theorem SMade.rds {W0 wr : World} {v : Value} {l : List Sd} (h : SMade W0 wr v l) : ∃ A c, v = .slice A l.length c ∧ RdS wr A l := by
  obtain ⟨A, c, rfl, hA, _⟩ := h.2.1.slice
  refine ⟨A, c, rfl, fun s l' e => ?_⟩
  obtain ⟨g, rfl⟩ := hA (by rw [e]; simp)
  exact ⟨g, 0, rfl, (srow_of_own h.2.1).1⟩

theorem one_seed (x : Sd) : ∀ u ∈ encS x, u.oneCell' = true := by
  intro u hu; simp [encS] at hu; rcases hu with rfl | rfl | rfl <;> rfl

/-- The seed that is being made. -/
structure SBx (W0 w : World) (bx : Nat) (c sd ky : Int) (kb q : Nat) (x : Int) (v : Value) (l : List Sd) : Prop where
  nw : Nw W0 w
  row : Row w bx 52 #[.int .i64 c, .int .i64 sd, .int .i64 ky]
  ck : w.cell? ⟨kb, q, none⟩ = some (.int .i64 x)
  own : Own w 52 3 v l.length (flatS l)
  new : W0.heap.size ≤ bx
  kb : kb < bx
  ob : ∀ g, v.ownBlock = some g → g ≠ bx

theorem SBx.set1 {W0 w : World} {bx : Nat} {c sd ky : Int} {kb q : Nat} {x : Int} {v : Value} {l : List Sd} (h : SBx W0 w bx c sd ky kb q x v l) (s : Int) : SBx W0 (w.setCell ⟨bx, 1, none⟩ (.int .i64 s)) bx c s ky kb q x v l := by
  have hf : Fr (fun k => k = bx) w (w.setCell ⟨bx, 1, none⟩ (.int .i64 s)) := (Fr.refl (fun k => k = bx) w).setCell (p := ⟨bx, 1, none⟩) (fun _ => rfl) _
  have hk := h.kb
  have hn := h.new
  exact { nw := Fr.trans h.nw hf (fun k hk e => by omega), row := by simpa using h.row.set 1 (.int .i64 s), ck := (hf.cell (p := ⟨kb, q, none⟩) (World.block_lt_of_cell? w _ h.ck) (by show ¬ kb = bx; omega)).trans h.ck, own := h.own.fr hf (fun k hk e => h.ob k hk e), new := hn, kb := hk, ob := h.ob }
theorem SBx.set2 {W0 w : World} {bx : Nat} {c sd ky : Int} {kb q : Nat} {x : Int} {v : Value} {l : List Sd} (h : SBx W0 w bx c sd ky kb q x v l) (s : Int) : SBx W0 (w.setCell ⟨bx, 2, none⟩ (.int .i64 s)) bx c sd s kb q x v l := by
  have hf : Fr (fun k => k = bx) w (w.setCell ⟨bx, 2, none⟩ (.int .i64 s)) := (Fr.refl (fun k => k = bx) w).setCell (p := ⟨bx, 2, none⟩) (fun _ => rfl) _
  have hk := h.kb
  have hn := h.new
  exact { nw := Fr.trans h.nw hf (fun k hk e => by omega), row := by simpa using h.row.set 2 (.int .i64 s), ck := (hf.cell (p := ⟨kb, q, none⟩) (World.block_lt_of_cell? w _ h.ck) (by show ¬ kb = bx; omega)).trans h.ck, own := h.own.fr hf (fun k hk e => h.ob k hk e), new := hn, kb := hk, ob := h.ob }

set_option maxRecDepth 100000 in
set_option maxHeartbeats 4000000 in
theorem refSeeds_any (W H : Int) (A : Option Addr) (C : List Int) (cap : Nat) (AK : Option Addr) (K : List Int) (kcap : Nat) (w : World) (h : RdN w .u8 A C) (hC1 : 1 ≤ C.length) (hC2 : C.length ≤ 65536) (hk : RdN w .i64 AK K) (hkl : K.length ≤ 1048576) :
    Calls Try.prog 8 #[.agg #[.int .i64 W, .int .i64 H, .slice A C.length cap], .slice AK K.length kcap] w (SeedsP w K.length) := by
  obtain ⟨i0, hi, hz0, hz1, hz2⟩ := info_parts infoSeed
  obtain ⟨fc, hfc, hfcc⟩ := within_fun 0 ((C.length : Int) - 1) (by omega) (by omega) (by omega)
  have HFC := fun n w => Lib.hid (hfcc n w)
  have HF9 := fun n w => Lib.hid (within_any n 0 900 w (by omega) (by omega) (by omega))
  have HF4 := fun n w => Lib.hid (within_any n 0 4 w (by omega) (by omega) (by omega))
  have HFM := fun n w => Lib.hid (within_any n 0 1073741824 w (by omega) (by omega) (by omega))
  unfold WithinP at HF9 HF4 HFM
  have hN := Nw.alloc w (.cells #[.int .i64 W, .int .i64 H, .slice A C.length cap] 24)
  have HT : Hid (∀ V, Nw (w.alloc (.cells #[.int .i64 W, .int .i64 H, .slice A C.length cap] 24)) V → TBox V w.heap.size W H A C cap) := fun V hV => by
    have hr := Row.new w #[.int .i64 W, .int .i64 H, .slice A C.length cap] 24
    exact TBox.nw ⟨hr.cell 0, hr.cell 1, hr.cell 2, h.nw hN⟩ hV
  have HK : Hid (∀ V, Nw (w.alloc (.cells #[.int .i64 W, .int .i64 H, .slice A C.length cap] 24)) V → RdN V .i64 AK K) := fun V hV => hk.nw (hN.trans hV)
  have HS : ∀ c s V, Hid (Calls Try.prog 27 #[.int .i64 W, .int .i64 H, .int .i64 c, .int .i64 s] V fun e w' => (∃ r, e = .returned (.int .i64 r)) ∧ Nw V w') := fun c s V => Lib.hid ((step_any W H c s V).mono fun e w' h => ⟨⟨_, h.1⟩, h.2⟩)
  have HEND : Hid (∀ V v l, SMade (w.alloc (.cells #[.int .i64 W, .int .i64 H, .slice A C.length cap] 24)) V v l → l.length ≤ K.length → SeedsP w K.length (.returned v) V) := fun V v l hm hl => by
    obtain ⟨A', c, rfl, hr⟩ := hm.rds
    exact ⟨A', l, c, rfl, hr, hl, hN.trans hm.1⟩
  have HST : Hid (SMade (w.alloc (.cells #[.int .i64 W, .int .i64 H, .slice A C.length cap] 24)) (w.alloc (.cells #[.int .i64 W, .int .i64 H, .slice A C.length cap] 24)) (.slice none 0 0) []) := ⟨Nw.refl _, Own.nil _ _ _, fun g hg => by simp [Value.ownBlock] at hg⟩
  clear h hk hN hfcc
  generalize hn : C.length = n at *
  generalize hm : K.length = m at *
  generalize hpost : SeedsP w m = post at *
  generalize hTT : w.heap.size = T at HT
  clear hpost
  go_enter Try.func8, Try.ntmps8
  go_wp2_with fail
  generalize (w.alloc (.cells #[.int .i64 W, .int .i64 H, .slice A n cap] 24)) = W0 at *
  clear hTT
  go_loopg [5, 6] m (fun gh x5 x6 wr => ∃ (k : Nat) (l : List Sd), k ≤ m ∧ gh + k = m ∧ l.length ≤ k ∧ x6 = .int .i64 k ∧ Hid (SMade W0 wr x5 l))
  case atStart => exact ⟨0, [], Nat.zero_le _, by omega, Nat.le_refl _, rfl, HST⟩
  case round =>
    clear HST
    obtain ⟨k, l, hk, hg, hlk, rfl, hM⟩ := hrel
    by_cases hlt : k < m
    · have i1 : (k : Int) < m := by omega
      have hTB := HT.out wr hM.out.1
      obtain ⟨kb, ko, rfl, ck⟩ := (HK.out wr hM.out.1).at (show k < K.length by omega)
      generalize K.getD k 0 = x at *
      obtain ⟨x0, x1⟩ := hfc x
      obtain ⟨tb, tof, rfl, bc⟩ := hTB.rd.at (show (fc x).toNat < C.length by omega)
      change _ = some (Value.int .u8 (at0 C (fc x))) at bc
      have d2 := hTB.c2
      rw [hn] at d2
      have x2 : fc x < n := by omega
      have n1 : (n : Int) - 1 ≤ 65536 := by omega
      have HM2 : Hid (∀ q, Nw W0 (wr.drewN q)) := fun q => Fr.drewN hM.out.1 q
      obtain ⟨A5, c5, rfl, -⟩ := hM.out.2.1.slice
      have HM3 : Hid (∀ q, SMade W0 (wr.drewN q) (.slice A5 l.length c5) l) := fun q => ⟨Fr.drewN hM.out.1 q, hM.out.2.1, hM.out.2.2⟩
      cases hb : (at0 C (fc x) == 255) with
      | true =>
        clear hM hTB HS HF9 HF4 HFM HEND HK HT hfc
        generalize at0 C (fc x) = cc at *
        go_wp2_with fail
        go_quiet ((go_at_call 15; exact Calls.quiet_of_same ((HFC _ _).out.mono fun e w' h => ⟨h.1, h.2.symm⟩)))
        go_wp2
        go_roundg (gk - 1)
        case measure => omega
        case rel => exact ⟨k + 1, l, by omega, by omega, by omega, by go_num, HM3.out _⟩
      | false =>
        have HNX : Hid (∀ wa w2 v' x, Nw W0 wa → Own w2 52 3 v' (l.length + 1) (flatS l ++ encS x) → wa.grownBy w2 (Value.slice A5 l.length c5).ownBlock → (v'.ownBlock = (Value.slice A5 l.length c5).ownBlock ∨ ∃ g, v'.ownBlock = some g ∧ wa.heap.size ≤ g) → SMade W0 w2 v' (l ++ [x])) := fun wa w2 v' x a b c d => hM.out.next a b c d
        have HOW : Hid (∀ V, Nw wr V → Own V 52 3 (.slice A5 l.length c5) l.length (flatS l)) := fun V hV => hM.out.2.1.fr hV (fun _ _ h => h)
        have HWT : Hid (∀ V, Nw wr V → Nw W0 V) := fun V hV => hM.out.1.trans hV
        have d0 := hTB.c0
        have d1 := hTB.c1
        clear hM hTB HEND hfc HM3
        generalize at0 C (fc x) = cc at *
        go_wp2_with fail
        go_quiet ((go_at_call 15; exact Calls.quiet_of_same ((HFC _ _).out.mono fun e w' h => ⟨h.1, h.2.symm⟩)))
        have hw3 : Nw wr (wr.drewN nq) := Nw.drewN wr nq
        have ck' : (wr.drewN nq).cell? ⟨kb, ko + k, none⟩ = some (.int .i64 x) := ck
        have d2' : (wr.drewN nq).cell? ⟨T, 2, none⟩ = some (.slice (some ⟨tb, tof, none⟩) n cap) := d2
        have bc' : (wr.drewN nq).cell? ⟨tb, tof + (fc x).toNat, none⟩ = some (.int .u8 cc) := bc
        have ck3 : ∀ o, ((wr.drewN nq).alloc o).cell? ⟨kb, ko + k, none⟩ = some (.int .i64 x) := fun o => (Nw.alloc _ o).cell ck'
        have d03 : ∀ o, ((wr.drewN nq).alloc o).cell? ⟨T, 0, none⟩ = some (.int .i64 W) := fun o => (Nw.alloc _ o).cell (hw3.cell d0)
        have d13 : ∀ o, ((wr.drewN nq).alloc o).cell? ⟨T, 1, none⟩ = some (.int .i64 H) := fun o => (Nw.alloc _ o).cell (hw3.cell d1)
        clear ck d2 bc d0 d1
        generalize wr.drewN nq = w3 at *
        go_wp2_with fail
        refine ((HF9 _ _).out).mono ?_
        rintro e w' ⟨ky, rfl, ky0, ky1, rfl⟩
        go_wp2_with fail
        refine ((HF4 _ _).out).mono ?_
        rintro e w' ⟨s4, rfl, s40, s41, rfl⟩
        go_wp2_with fail
        refine ((HS _ _ _).out).mono ?_
        rintro e w4 ⟨⟨st, rfl⟩, hw4⟩
        have hnb := Row.new w3 #[.int .i64 (fc x), .int .i64 4, .int .i64 ky] 52
        have hwa : Nw w3 (w3.alloc (.cells #[.int .i64 (fc x), .int .i64 4, .int .i64 ky] 52)) := Nw.alloc _ _
        have hr4 := hnb.fr hw4 (fun h => h)
        have ck4 : w4.cell? ⟨kb, ko + k, none⟩ = some (.int .i64 x) := hw4.cell (hwa.cell ck')
        have hkb : kb < w3.heap.size := World.block_lt_of_cell? w3 _ ck'
        have hwt := HWT.out w4 ((hw3.trans hwa).trans hw4)
        have how := HOW.out w4 ((hw3.trans hwa).trans hw4)
        have hs3 : W0.heap.size ≤ w3.heap.size := (HWT.out w3 hw3).size
        have hob : ∀ g, (Value.slice A5 l.length c5).ownBlock = some g → g ≠ w3.heap.size := fun g hg => by
          have := (HOW.out wr (Nw.refl _)).lt g hg
          have := hw3.size
          omega
        have S4 : SBx W0 w4 w3.heap.size (fc x) 4 ky kb (ko + k) x (.slice A5 l.length c5) l := ⟨hwt, hr4, ck4, how, hs3, hkb, hob⟩
        have HS4 := Lib.hid S4
        clear hw4 hwa hnb ck3 d03 d13 d2' bc' hob hs3 how hwt HOW HWT hw3 ck' S4
        generalize w3.heap.size = bx at *
        have m0 : w4.cell? ⟨bx, 0, none⟩ = some (.int .i64 (fc x)) := hr4.cell 0
        have m1 : w4.cell? ⟨bx, 1, none⟩ = some (.int .i64 4) := hr4.cell 1
        have m2 : w4.cell? ⟨bx, 2, none⟩ = some (.int .i64 ky) := hr4.cell 2
        have g1 : w4.frozen? ⟨bx, 1, none⟩ = false := hr4.free 1
        have g2 : w4.frozen? ⟨bx, 2, none⟩ = false := hr4.free 2
        have k1 : ¬ kb = bx := by omega
        have k2 : ¬ bx = kb := by omega
        clear hr4 hkb
        have HLL : Hid (l.length ≤ 1048576) := by have : l.length ≤ 1048576 := by omega
                                                  exact this
        by_cases hst : st < 0
        · by_cases hx11 : x.tmod 11 = 0
          · have t11 : (x.tmod 11 == 0) = true := by simpa using hx11
            have HS5 := Lib.hid (HS4.out.set1 s4)
            go_wp2_with fail
            refine ((HFM _ _).out).mono ?_
            rintro e w' ⟨kz, rfl, kz0, kz1, rfl⟩
            have SS := Lib.hid (HS5.out.set2 kz)
            go_wp2_with (refine wpL_append1 rfl (.tmp 67) (.tmp 69) 26 rfl 52 i0 _ 3 24 Try.underlying26 hi hz0 hz1 hz2 rfl (.slice A5 l.length c5) l.length (flatS l) (encS ⟨fc x, s4, kz⟩) rfl SS.out.own (by first | rfl | (simp only [size_setCell]; rfl)) rfl (one_seed _) ?b1 ?b2 ?_)
            case b1 => unfold maxLen; omega
            case b2 => omega
            intro v' w6 ho hgr hblk _ _
            have HNN := Lib.hid (HNX.out _ w6 v' ⟨fc x, s4, kz⟩ SS.out.nw ho hgr (by simpa only [size_setCell] using hblk))
            obtain ⟨A6, c6, rfl, -⟩ := ho.slice
            clear ho hgr hblk HNX SS HS HF9 HF4 HFM HFC HK HT HM2
            go_wp2
            go_roundg (gk - 1)
            case measure => omega
            case rel => exact ⟨k + 1, l ++ [⟨fc x, s4, kz⟩], by omega, by omega, by simp; omega, by go_num, HNN⟩
          · have t11 : (x.tmod 11 == 0) = false := by simpa using hx11
            have SS := Lib.hid (HS4.out.set1 s4)
            go_wp2_with (refine wpL_append1 rfl (.tmp 67) (.tmp 69) 26 rfl 52 i0 _ 3 24 Try.underlying26 hi hz0 hz1 hz2 rfl (.slice A5 l.length c5) l.length (flatS l) (encS ⟨fc x, s4, ky⟩) rfl SS.out.own (by first | rfl | (simp only [size_setCell]; rfl)) rfl (one_seed _) ?b1 ?b2 ?_)
            case b1 => unfold maxLen; omega
            case b2 => omega
            intro v' w6 ho hgr hblk _ _
            have HNN := Lib.hid (HNX.out _ w6 v' ⟨fc x, s4, ky⟩ SS.out.nw ho hgr (by simpa only [size_setCell] using hblk))
            obtain ⟨A6, c6, rfl, -⟩ := ho.slice
            clear ho hgr hblk HNX SS HS HF9 HF4 HFM HFC HK HT HM2
            go_wp2
            go_roundg (gk - 1)
            case measure => omega
            case rel => exact ⟨k + 1, l ++ [⟨fc x, s4, ky⟩], by omega, by omega, by simp; omega, by go_num, HNN⟩
        · by_cases hx11 : x.tmod 11 = 0
          · have t11 : (x.tmod 11 == 0) = true := by simpa using hx11
            have HS5 := Lib.hid HS4.out
            go_wp2_with fail
            refine ((HFM _ _).out).mono ?_
            rintro e w' ⟨kz, rfl, kz0, kz1, rfl⟩
            have SS := Lib.hid (HS5.out.set2 kz)
            go_wp2_with (refine wpL_append1 rfl (.tmp 67) (.tmp 69) 26 rfl 52 i0 _ 3 24 Try.underlying26 hi hz0 hz1 hz2 rfl (.slice A5 l.length c5) l.length (flatS l) (encS ⟨fc x, 4, kz⟩) rfl SS.out.own (by first | rfl | (simp only [size_setCell]; rfl)) rfl (one_seed _) ?b1 ?b2 ?_)
            case b1 => unfold maxLen; omega
            case b2 => omega
            intro v' w6 ho hgr hblk _ _
            have HNN := Lib.hid (HNX.out _ w6 v' ⟨fc x, 4, kz⟩ SS.out.nw ho hgr (by simpa only [size_setCell] using hblk))
            obtain ⟨A6, c6, rfl, -⟩ := ho.slice
            clear ho hgr hblk HNX SS HS HF9 HF4 HFM HFC HK HT HM2
            go_wp2
            go_roundg (gk - 1)
            case measure => omega
            case rel => exact ⟨k + 1, l ++ [⟨fc x, 4, kz⟩], by omega, by omega, by simp; omega, by go_num, HNN⟩
          · have t11 : (x.tmod 11 == 0) = false := by simpa using hx11
            have SS := Lib.hid HS4.out
            go_wp2_with (refine wpL_append1 rfl (.tmp 67) (.tmp 69) 26 rfl 52 i0 _ 3 24 Try.underlying26 hi hz0 hz1 hz2 rfl (.slice A5 l.length c5) l.length (flatS l) (encS ⟨fc x, 4, ky⟩) rfl SS.out.own (by first | rfl | (simp only [size_setCell]; rfl)) rfl (one_seed _) ?b1 ?b2 ?_)
            case b1 => unfold maxLen; omega
            case b2 => omega
            intro v' w6 ho hgr hblk _ _
            have HNN := Lib.hid (HNX.out _ w6 v' ⟨fc x, 4, ky⟩ SS.out.nw ho hgr (by simpa only [size_setCell] using hblk))
            obtain ⟨A6, c6, rfl, -⟩ := ho.slice
            clear ho hgr hblk HNX SS HS HF9 HF4 HFM HFC HK HT HM2
            go_wp2
            go_roundg (gk - 1)
            case measure => omega
            case rel => exact ⟨k + 1, l ++ [⟨fc x, 4, ky⟩], by omega, by omega, by simp; omega, by go_num, HNN⟩
    · have hnm : ¬ (k : Int) < m := by omega
      have HF := Lib.hid (HEND.out wr _ l hM.out (by omega))
      obtain ⟨A5, c5, rfl, -⟩ := hM.out.2.1.slice
      clear hM HEND HT HK HS HF9 HF4 HFM HFC
      go_wp2_with fail
      exact HF.out
end Ref
end Go.Proofs.Ytjnjppikhdfomaa

namespace Go.Proofs.Ytjnjppikhdfomaa
open Go Go.RowKit Go.Proofs B Rng
namespace Ref
open Swp

theorem best3 : Best 3 1 [5, 2, 9] [⟨2, 4, 0⟩] [11, 9, 0] := by
  have n0 : nb 3 1 0 = [1] := by decide
  have n1 : nb 3 1 1 = [2, 0] := by decide
  have n2 : nb 3 1 2 = [1] := by decide
  have hc : ∀ c : Int, 0 ≤ c → c < ((([5, 2, 9] : List Int).length : Nat) : Int) → c = 0 ∨ c = 1 ∨ c = 2 := fun c h0 h1 => by simp at h1; omega
  refine ⟨rfl, ⟨fun c h0 h1 => ?_, fun s hs => ?_, fun m c m0 m1 hcn _ _ => ?_⟩, fun E hE c h0 h1 => ?_⟩
  · rcases hc c h0 h1 with rfl | rfl | rfl <;> decide
  · simp at hs; subst hs; decide
  · rcases hc m m0 m1 with rfl | rfl | rfl
    · rw [n0] at hcn; simp at hcn; subst hcn; decide
    · rw [n1] at hcn; simp at hcn; rcases hcn with rfl | rfl <;> decide
    · rw [n2] at hcn; simp at hcn; subst hcn; decide
  · have e2 := hE.seed ⟨2, 4, 0⟩ (by simp)
    have e1 := hE.edge 2 1 (by omega) (by decide) (by rw [n2]; simp) (by decide) (by decide)
    have e0 := hE.edge 1 0 (by omega) (by decide) (by rw [n1]; simp) (by decide) (by decide)
    have a1 : at0 [5, 2, 9] 2 = 9 := rfl
    have a0 : at0 [5, 2, 9] 1 = 2 := rfl
    rw [a1] at e1
    rw [a0] at e0
    simp only at e2
    rcases hc c h0 h1 with rfl | rfl | rfl
    · show E 0 ≤ 11; omega
    · show E 1 ≤ 9; omega
    · show E 2 ≤ 0; omega

theorem rdn_new3 (w : World) (k : IntKind) (a b c : Int) (t : TypeId) : RdN (w.alloc (.cells #[.int k a, .int k b, .int k c] t)) k (some ⟨w.heap.size, 0, none⟩) [a, b, c] := by
  intro x l e
  refine ⟨w.heap.size, 0, rfl, fun j y hy => ?_⟩
  refine cell_newn w _ t _ _ ?_
  rw [Nat.zero_add]
  match j, hy with
  | 0, hy => simp at hy; subst hy; rfl
  | 1, hy => simp at hy; subst hy; rfl
  | 2, hy => simp at hy; subst hy; rfl
  | j + 3, hy => simp at hy

theorem told_spread (w : World) : Calls Try.prog 10 #[.agg #[.int .i64 3, .int .i64 1, .slice (some ⟨w.heap.size, 0, none⟩) 3 3], .slice (some ⟨w.heap.size + 1, 0, none⟩) 1 1] ((w.alloc (.cells #[.int .u8 5, .int .u8 2, .int .u8 9] 5)).alloc (.cells #[.int .i64 2, .int .i64 4, .int .i64 0] 52)) fun e w' => ∃ g c, e = .returned (.tuple #[.slice (some ⟨g, 0, none⟩) 3 c, .int .i64 0]) ∧ Nw w w' ∧ ∀ V, Nw w' V → RdN V .i64 (some ⟨g, 0, none⟩) [11, 9, 0] := by
  have h1 := (rdn_new3 w .u8 5 2 9 5).nw (Nw.alloc _ (.cells #[.int .i64 2, .int .i64 4, .int .i64 0] 52))
  have h2 : RdS ((w.alloc (.cells #[.int .u8 5, .int .u8 2, .int .u8 9] 5)).alloc (.cells #[.int .i64 2, .int .i64 4, .int .i64 0] 52)) (some ⟨w.heap.size + 1, 0, none⟩) [⟨2, 4, 0⟩] := by
    intro s l e
    refine ⟨w.heap.size + 1, 0, rfl, fun j x hx => ?_⟩
    have hr := Row.new (w.alloc (.cells #[.int .u8 5, .int .u8 2, .int .u8 9] 5)) #[.int .i64 2, .int .i64 4, .int .i64 0] 52
    rw [size_alloc] at hr
    match j, hx with
    | 0, hx => simp at hx; subst hx; exact ⟨hr.cell 0, hr.cell 1, hr.cell 2⟩
    | j + 1, hx => simp at hx
  refine (spread_any 3 1 (some ⟨w.heap.size, 0, none⟩) [5, 2, 9] 3 (some ⟨w.heap.size + 1, 0, none⟩) [⟨2, 4, 0⟩] 1 _ h1 (by simp) (fun b hb => by simp at hb; omega) h2 (by simp)).mono ?_
  intro e w' h
  unfold SpreadPost at h
  rw [if_pos (by decide)] at h
  obtain ⟨g, c, D, rfl, hg, ho, hb, hn⟩ := h
  have e := hb.unique best3
  subst e
  refine ⟨g, c, rfl, ((Nw.alloc _ _).trans (Nw.alloc _ _)).trans hn, fun V hV => ?_⟩
  obtain ⟨A, c', he, hr⟩ := rdn_of_own (C := [11, 9, 0]) ho
  injection he with e1
  subst e1
  exact hr.nw hV

set_option maxRecDepth 100000 in
set_option maxHeartbeats 4000000 in
theorem told_any (w : World) : Calls Try.prog 5 #[] w fun e w' => e = .returned (.bool true) ∧ Nw w w' := by
  have HS := Lib.hid (told_spread w)
  go_enter Try.func5, Try.ntmps5
  go_wp2_with fail
  refine (HS.out).mono ?_
  rintro e w2 ⟨g, c, rfl, hn, hr⟩
  have HN := Lib.hid hn
  have HI := Lib.hid (ints_any (some ⟨g, 0, none⟩) (some ⟨w2.heap.size, 0, none⟩) [11, 9, 0] [11, 9, 0] c 3 (w2.alloc (.cells #[.int .i64 11, .int .i64 9, .int .i64 0] 3)) (hr _ (Nw.alloc _ _)) (rdn_new3 w2 .i64 11 9 0 3) (by simp) (by simp))
  rw [show decide (([11, 9, 0] : List Int) = [11, 9, 0]) = true from rfl] at HI
  have HW : Hid (∀ w', Nw (w2.alloc (.cells #[.int .i64 11, .int .i64 9, .int .i64 0] 3)) w' → Nw w w') := fun w' h => (hn.trans (Nw.alloc _ _)).trans h
  clear HS hn hr
  go_wp2_with (go_at_call 14; refine (HI.out).mono ?_; rintro e w' ⟨rfl, hw⟩)
  go_ret
  exact ⟨rfl, HW.out _ hw⟩
end Ref
end Go.Proofs.Ytjnjppikhdfomaa
