import Derived.Test.YtjnjppikhdfomaaM3
import Derived.Test.YtjnjppikhdfomaaLay
import Derived.Lib.SliceRun
import Derived.Laws.StructEq
import Derived.Laws.Tables
set_option linter.unusedVariables false
set_option linter.unusedSimpArgs false

namespace Go.Proofs.Ytjnjppikhdfomaa
open Go Go.RowKit Go.Proofs B Rng
namespace Swp
instance : Inhabited Sd := ⟨⟨0, 0, 0⟩⟩

theorem infoSeed : (Try.prog.info? 52).map (fun i => (i.zero, i.size, i.bytes)) = some (some (.agg #[.int .i64 0, .int .i64 0, .int .i64 0]), 3, 24) := by kernel_rfl

def flatS (l : List Sd) : List Value := l.flatMap encS
theorem length_flatS (l : List Sd) : (flatS l).length = l.length * 3 := by
  induction l with
  | nil => rfl
  | cons x l ih => simp [flatS, encS] at ih ⊢; omega
theorem flatS_get (l : List Sd) (j : Nat) (x : Sd) (h : l[j]? = some x) : (flatS l)[j * 3]? = some (.int .i64 x.cell) ∧ (flatS l)[j * 3 + 1]? = some (.int .i64 x.side) ∧ (flatS l)[j * 3 + 2]? = some (.int .i64 x.key) := by
  induction l generalizing j with
  | nil => simp at h
  | cons y l ih =>
    have e : flatS (y :: l) = encS y ++ flatS l := rfl
    cases j with
    | zero => simp at h; subst h; rw [e]; exact ⟨rfl, rfl, rfl⟩
    | succ j =>
      have := ih j (by simpa using h)
      have el : (encS y).length = 3 := rfl
      rw [e, List.getElem?_append_right (by omega), List.getElem?_append_right (by omega), List.getElem?_append_right (by omega), el, show (j + 1) * 3 - 3 = j * 3 by omega, show (j + 1) * 3 + 1 - 3 = j * 3 + 1 by omega, show (j + 1) * 3 + 2 - 3 = j * 3 + 2 by omega]
      exact this
theorem flatS_one (l : List Sd) : ∀ u ∈ flatS l, u.oneCell' = true := by
  intro u hu
  obtain ⟨x, _, hx⟩ := List.mem_flatMap.1 hu
  simp [encS] at hx
  rcases hx with rfl | rfl | rfl <;> rfl
theorem flatS_rd {w : World} {b o : Nat} {l : List Sd} (h : ∀ j x, l[j]? = some x → w.cell? ⟨b, o + j * 3, none⟩ = some (.int .i64 x.cell) ∧ w.cell? ⟨b, o + j * 3 + 1, none⟩ = some (.int .i64 x.side) ∧ w.cell? ⟨b, o + j * 3 + 2, none⟩ = some (.int .i64 x.key)) (q : Nat) (u : Value) (hu : (flatS l)[q]? = some u) : w.cell? ⟨b, o + q, none⟩ = some u := by
  have hq : q < l.length * 3 := by rw [← length_flatS]; exact (List.getElem?_eq_some_iff.1 hu).1
  have hx : l[q / 3]? = some (l[q / 3]'(by omega)) := List.getElem?_eq_getElem _
  generalize l[q / 3]'(by omega) = x at hx
  obtain ⟨c0, c1, c2⟩ := h _ x hx
  obtain ⟨f0, f1, f2⟩ := flatS_get l _ x hx
  have hr : q = q / 3 * 3 ∨ q = q / 3 * 3 + 1 ∨ q = q / 3 * 3 + 2 := by omega
  generalize q / 3 = m at *
  rcases hr with rfl | rfl | rfl
  · rw [c0, ← f0, hu]
  · rw [← Nat.add_assoc, c1, ← f1, hu]
  · rw [← Nat.add_assoc, c2, ← f2, hu]

set_option maxRecDepth 100000 in
set_option maxHeartbeats 1000000 in
theorem clone_any (A : Option Addr) (l : List Sd) (cap : Nat) (w : World) (h : RdS w A l) (hl : l.length ≤ 1048576) :
    Calls Try.prog 46 #[.slice A l.length cap] w fun e w' => ∃ v, e = .returned v ∧ Own w' 52 3 v l.length (flatS l) ∧ Nw w w' ∧ ∀ g, v.ownBlock = some g → w.heap.size ≤ g := by
  obtain ⟨i0, hi, hz0, hz1, hz2⟩ := info_parts infoSeed
  cases A with
  | none =>
    have hl0 : l = [] := by
      cases l with
      | nil => rfl
      | cons s l => obtain ⟨b, o, e, _⟩ := h s l rfl; simp at e
    subst hl0
    have HP := Lib.hid (show ∃ v, (Ending.returned (.slice none 0 0)) = .returned v ∧ Own w 52 3 v 0 (flatS []) ∧ Nw w w ∧ ∀ g, v.ownBlock = some g → w.heap.size ≤ g from ⟨_, rfl, Own.nil _ _ _, Nw.refl _, fun g hg => by simp [Value.ownBlock] at hg⟩)
    clear h
    have he := Lib.run_eql_slice_nil (P := Try.prog) w 26 52 none 0 cap 0 0 Try.underlying26
    go_enter Try.func46, Try.ntmps46
    go_wp2
    go_ret
    exact HP.out
  | some A =>
    have he := Lib.run_eql_slice_nil (P := Try.prog) w 26 52 (some A) l.length cap 0 0 Try.underlying26
    generalize hn : l.length = n at *
    have hg0 : Nw w (w.alloc (.cells #[] 52)) := Nw.alloc w _
    have HO : Hid (Own (w.alloc (.cells #[] 52)) 52 3 (.slice (some ⟨w.heap.size, 0, none⟩) 0 0) 0 []) := ⟨rfl, .inr ⟨w.heap.size, 0, #[], rfl, Nat.zero_le _, Row.new w _ _, Nat.le_refl _, Nat.zero_le _, rfl, rfl⟩⟩
    have HC : Hid (∀ (j : Nat) (u : Value), (flatS l)[j]? = some u → (w.alloc (.cells #[] 52)).cell? (A.add j) = some u) := fun j u hu => by
      cases l with
      | nil => simp [flatS] at hu
      | cons s l' =>
        obtain ⟨b, o, e, hc⟩ := (h.nw hg0) s l' rfl
        injection e with e
        subst e
        have hadd : (⟨b, o, none⟩ : Addr).add j = ⟨b, o + j, none⟩ := by unfold Addr.add; split <;> simp_all
        rw [hadd]
        exact flatS_rd hc j u hu
    have HN := Lib.hid hg0
    have h1 := flatS_one l
    have H1 := Lib.hid h1
    have hlen : (flatS l).length = n * 3 := by rw [length_flatS, hn]
    have HL := Lib.hid hlen
    clear h hg0 h1 hlen hn
    generalize flatS l = xs at *
    go_enter Try.func46, Try.ntmps46
    go_wp2_with (refine wpL_append rfl (.tmp 5) (.tmp 6) 26 rfl 52 i0 _ 3 24 Try.underlying26 hi hz0 hz1 hz2 rfl (.slice (some ⟨w.heap.size, 0, none⟩) 0 0) 0 [] rfl HO.out A n cap xs rfl HL.out HC.out H1.out ?b1 ?b2 ?_)
    case b1 => unfold maxLen; omega
    case b2 => omega
    rintro v w' ho hgb hb - -
    have HP : Hid (∃ v', Ending.returned v = .returned v' ∧ Own w' 52 3 v' n xs ∧ Nw w w' ∧ ∀ g, v'.ownBlock = some g → w.heap.size ≤ g) := by
      refine ⟨v, rfl, by simpa using ho, Fr.grown HN.out hgb (fun k hk hlt => ?_), fun g hg => ?_⟩
      · simp [Value.ownBlock] at hk; omega
      · rcases hb with hb | hb
        · rw [hb] at hg; simp [Value.ownBlock] at hg; omega
        · rw [hb] at hg; simp at hg; omega
    clear ho hgb hb HO HC HN H1 HL he
    go_wp2
    go_ret
    exact HP.out
end Swp
end Go.Proofs.Ytjnjppikhdfomaa

namespace Go.Proofs.Ytjnjppikhdfomaa
open Go Go.RowKit Go.Proofs B Rng
namespace Swp

/-- A row of seeds, none frozen. -/
def SRow (w : World) (g o : Nat) (l : List Sd) : Prop := (∀ j x, l[j]? = some x → w.cell? ⟨g, o + j * 3, none⟩ = some (.int .i64 x.cell) ∧ w.cell? ⟨g, o + j * 3 + 1, none⟩ = some (.int .i64 x.side) ∧ w.cell? ⟨g, o + j * 3 + 2, none⟩ = some (.int .i64 x.key)) ∧ ∀ q, q < l.length * 3 → w.frozen? ⟨g, o + q, none⟩ = false

theorem srow_of_own {w : World} {g cap n : Nat} {l : List Sd} (h : Own w 52 3 (.slice (some ⟨g, 0, none⟩) n cap) n (flatS l)) : SRow w g 0 l := by
  refine ⟨fun j x hx => ?_, fun q hq => h.free (g := g) rfl _⟩
  obtain ⟨f0, f1, f2⟩ := flatS_get l j x hx
  exact ⟨h.cells (g := g) rfl _ _ (by rw [Nat.zero_add]; exact f0), h.cells (g := g) rfl _ _ (by rw [Nat.zero_add]; exact f1), h.cells (g := g) rfl _ _ (by rw [Nat.zero_add]; exact f2)⟩

theorem getBang (l : List Sd) (j : Nat) (h : j < l.length) : l.toArray[j]! = l[j] := by simp [h]

theorem holds_of_srow {w : World} {g o : Nat} {l : List Sd} (h : SRow w g o l) : Sort.HoldsK encS 3 w g o l.toArray := by
  intro q hq
  rw [Sort.size_flatK] at hq
  have hq' : q < l.length * 3 := by simpa using hq
  refine ⟨?_, h.2 q hq'⟩
  rw [Sort.get_flatK _ _ _ _ hq]
  have hl : q / 3 < l.length := by omega
  rw [getBang l _ hl]
  have hx : l[q / 3]? = some (l[q / 3]) := List.getElem?_eq_getElem _
  generalize l[q / 3] = x at hx
  obtain ⟨c0, c1, c2⟩ := h.1 _ x hx
  have hr : q = q / 3 * 3 + q % 3 := by omega
  have hm : q % 3 = 0 ∨ q % 3 = 1 ∨ q % 3 = 2 := by omega
  generalize q / 3 = m at *
  rcases hm with e | e | e <;> rw [e] at hr ⊢ <;> subst hr
  · exact c0
  · rw [← Nat.add_assoc]; exact c1
  · rw [← Nat.add_assoc]; exact c2

theorem srow_of_holds {w : World} {g o : Nat} {d : Array Sd} (h : Sort.HoldsK encS 3 w g o d) : SRow w g o d.toList := by
  refine ⟨fun j x hx => ?_, fun q hq => ?_⟩
  · have hj : j < d.size := by have := (List.getElem?_eq_some_iff.1 hx).1; simpa using this
    have e : d[j]! = x := by
      rw [Array.getElem?_toList] at hx
      rw [getElem!_pos d j hj]
      have := Array.getElem?_eq_getElem hj
      rw [this] at hx; injection hx
    have c0 := (h.cell hj (c := 0) (by omega)).1
    have c1 := (h.cell hj (c := 1) (by omega)).1
    have c2 := (h.cell hj (c := 2) (by omega)).1
    rw [e] at c0 c1 c2
    exact ⟨c0, c1, c2⟩
  · exact (h q (by rw [Sort.size_flatK]; simpa using hq)).2

theorem cmpI_cases (a b : Int) : (cmpI a b = -1 ∧ a < b) ∨ (cmpI a b = 1 ∧ b < a) ∨ (cmpI a b = 0 ∧ a = b) := by
  unfold cmpI
  by_cases h1 : a < b
  · exact .inl ⟨by rw [if_pos h1], h1⟩
  · by_cases h2 : b < a
    · exact .inr (.inl ⟨by rw [if_neg h1, if_pos h2], h2⟩)
    · exact .inr (.inr ⟨by rw [if_neg h1, if_neg h2], by omega⟩)
theorem or3_lt (a b c : Int) : or3 a b c < 0 ↔ a < 0 ∨ a = 0 ∧ (b < 0 ∨ b = 0 ∧ c < 0) := by
  unfold or3
  by_cases h1 : a = 0
  · by_cases h2 : b = 0
    · simp [h1, h2]
    · rw [if_neg (by simpa using h1), if_pos h2]; omega
  · rw [if_pos h1]; omega
theorem ltS_iff (x y : Sd) : ltOf ordS x y = decide (x.key < y.key ∨ x.key = y.key ∧ (x.cell < y.cell ∨ x.cell = y.cell ∧ x.side < y.side)) := by
  unfold ltOf ordS
  apply decide_eq_decide.2
  rw [or3_lt]
  have h1 := cmpI_cases x.key y.key
  have h2 := cmpI_cases x.cell y.cell
  have h3 := cmpI_cases x.side y.side
  generalize cmpI x.key y.key = a at *
  generalize cmpI x.cell y.cell = b at *
  generalize cmpI x.side y.side = c at *
  omega
theorem swoS : Sort.SWO (ltOf ordS) where
  irrefl x := by rw [ltS_iff]; simp
  trans x y z h1 h2 := by rw [ltS_iff] at *; simp only [decide_eq_true_eq] at *; omega
  ntrans x y z h1 h2 := by rw [ltS_iff] at *; simp only [decide_eq_false_iff_not] at *; omega

def LeK (l : List Sd) : Prop := l.Pairwise fun a b => a.key ≤ b.key

theorem lek_of_sorted {d : Array Sd} {n : Nat} (hn : d.size = n) (h : Sort.SortedIn (ltOf ordS) 0 n d) : LeK d.toList := by
  unfold LeK
  rw [List.pairwise_iff_getElem]
  intro i j hi hj hij
  have hi' : i < d.size := by simpa using hi
  have hj' : j < d.size := by simpa using hj
  have := h i j (Nat.zero_le _) hij (by omega)
  rw [ltS_iff, getElem!_pos d i hi', getElem!_pos d j hj'] at this
  simp only [decide_eq_false_iff_not] at this
  simp only [Array.getElem_toList]
  omega

theorem nw_sortWorld {w0 w : World} {g n : Nat} {d : Array Sd} {os : Array Obj} (h : Nw w0 w) (hg : w0.heap.size ≤ g) : Nw w0 (sortWorldK encS 3 w g 0 n d os) := by
  have hs : (sortWorldK encS 3 w g 0 n d os).heap.size = w.heap.size + os.size := by
    simp [sortWorldK, Sort.grow, Sort.putRowK, Sort.putRow, Sort.mapBlock, Sort.ahead]
  refine ⟨h.os, h.tape, h.output, by rw [hs]; exact Nat.le_add_right_of_le h.size, fun k hk hf => ?_⟩
  rw [← h.block k hk hf]
  have hkw : k < w.heap.size := Nat.lt_of_lt_of_le hk h.size
  have hne : g ≠ k := by omega
  simp only [sortWorldK, Sort.grow, Sort.putRowK, Sort.putRow, Sort.mapBlock, Sort.ahead]
  rw [Array.getElem?_append_left (by simpa using hkw), Array.getElem?_modify, if_neg hne]

def SortPost (w0 : World) (g n cap : Nat) (l : List Sd) (w' : World) : Prop := ∃ l', l'.Perm l ∧ LeK l' ∧ SRow w' g 0 l' ∧ Nw w0 w' ∧ g < w'.heap.size

set_option maxHeartbeats 1000000 in
theorem sortf_any (w0 : World) (g cap : Nat) (l : List Sd) (w : World) (h : SRow w g 0 l) (hn : Nw w0 w) (hg : w0.heap.size ≤ g) (hgw : g < w.heap.size) (hl : l.length ≤ 1048576) :
    Calls Try.prog 55 #[.slice (some ⟨g, 0, none⟩) l.length cap, .func (.func 56) #[] #[]] w fun e w' => e = .returned (.tuple #[]) ∧ SortPost w0 g l.length cap l w' := by
  have eg : ∀ args w, (callFunc 56 args).run Try.prog w = .ok (.enter 56 args) w := enters_of Try.func56 (by kernel_rfl) rfl
  have hcon := AnyQ.slices_SortFunc Try.sortSeed 3 Try.isAgg52 Try.sizeOf52 encS (fun _ => rfl) (fun x v hv => by simp [encS] at hv; rcases hv with rfl | rfl | rfl <;> rfl) ordS swoS 56 #[] g 0 cap l.toArray w eg (fun _ _ _ _ x y => order_any x y _) (holds_of_srow h) hgw (by simp; omega)
  change Calls Try.prog 55 _ _ _ at hcon
  refine Calls.mono (by simpa using hcon) ?_
  rintro e w' ⟨rfl, d', hp, hs, n, os, rfl⟩
  have hsz : d'.size = l.length := by simpa using hp.1
  have hperm : d'.toList.Perm l := by
    have := hp.2.2
    have e1 : d'.extract 0 l.length = d' := by rw [← hsz]; simp
    have e2 : l.toArray.extract 0 l.length = l.toArray := by simp
    rw [e1, e2] at this
    exact this
  refine ⟨rfl, d'.toList, hperm, lek_of_sorted hsz (by simpa using hs), ?_, nw_sortWorld hn hg, ?_⟩
  · refine srow_of_holds ?_
    exact holdsK_sortWorldK_c encS 3 w g 0 l.toArray d' n os (holds_of_srow h) hgw (by simpa using hsz)
  · simp [sortWorldK, Sort.grow, Sort.putRowK, Sort.putRow, Sort.mapBlock, Sort.ahead]; omega

set_option maxHeartbeats 1000000 in
theorem len64_0 (w : World) : Calls Try.prog 103 #[.int .u64 0] w fun e w' => e = .returned (.int .i64 0) ∧ w = w' := by
  have h8 : Lib.len8 0 = 0 := by kernel_rfl
  have hw : wrap64 0 = 0 := IntWalk.wrap64_in 0 (by omega)
  go_enter Try.func103, Try.ntmps103
  go_wp2
  go_ret
  exact ⟨rfl, rfl⟩
theorem len_0 (w : World) : Calls Try.prog 79 #[.int .u64 0] w fun e w' => e = .returned (.int .i64 0) ∧ w = w' := by
  have H := Lib.hid (len64_0 w)
  go_enter Try.func79, Try.ntmps79
  go_wp2_with (go_at_call 103; refine (H.out).mono ?_; rintro e w' ⟨rfl, rfl⟩)
  go_ret
  exact ⟨rfl, rfl⟩
set_option maxHeartbeats 1000000 in
theorem ins_0 (v c : Value) (w : World) : Calls Try.prog 94 #[v, .int .i64 0, .int .i64 0, c] w fun e w' => e = .returned (.tuple #[]) ∧ w = w' := by
  go_enter Try.func94, Try.ntmps94
  go_wp2_with fail
  go_loopg [8] 0 (fun k i wr => k = 0 ∧ wr = w ∧ i = .int .i64 1)
  case atStart => exact ⟨rfl, rfl, rfl⟩
  case round =>
    obtain ⟨rfl, rfl, rfl⟩ := hrel
    go_wp2
    go_end0
    exact ⟨rfl, rfl⟩
set_option maxRecDepth 100000 in
set_option maxHeartbeats 1000000 in
theorem pdq_0 (v c : Value) (w : World) : Calls Try.prog 78 #[v, .int .i64 0, .int .i64 0, .int .i64 0, c] w fun e w' => e = .returned (.tuple #[]) ∧ w = w' := by
  have H := Lib.hid (ins_0 v c w)
  go_enter Try.func78, Try.ntmps78
  go_wp2_with (go_at_call 94; refine (H.out).mono ?_; rintro e w' ⟨rfl, rfl⟩)
  go_loopg [1, 2] 0 (fun k x1 x2 wr => k = 0 ∧ wr = w ∧ x1 = .int .i64 0 ∧ x2 = .int .i64 0)
  case atStart => exact ⟨rfl, rfl, rfl, rfl⟩
  case round =>
    obtain ⟨rfl, rfl, rfl, rfl⟩ := hrel
    go_wp2_with (go_at_call 94; refine (H.out).mono ?_; rintro e w' ⟨rfl, rfl⟩)
    (try simp only [Exit.inBlock, Exit.then]); refine bodyPost_ret (results_none rfl _ _ _) rfl ?_
    exact ⟨rfl, rfl⟩
set_option maxHeartbeats 1000000 in
theorem sortf_0 (A : Option Addr) (cap : Nat) (c : Value) (w : World) : Calls Try.prog 55 #[.slice A 0 cap, c] w fun e w' => e = .returned (.tuple #[]) ∧ w = w' := by
  have H := Lib.hid (pdq_0 (.slice A 0 cap) c w)
  have H1 := Lib.hid (len_0 w)
  go_enter Try.func55, Try.ntmps55
  go_wp2_with (first | (go_at_call 79; refine (H1.out).mono ?_; rintro e w' ⟨rfl, rfl⟩) | (go_at_call 78; refine (H.out).mono ?_; rintro e w' ⟨rfl, rfl⟩))
  go_end0
  exact ⟨rfl, rfl⟩
end Swp
end Go.Proofs.Ytjnjppikhdfomaa

namespace Go.Proofs.Ytjnjppikhdfomaa
open Go Go.RowKit Go.Proofs B Rng
namespace Swp

theorem SRow.at {w : World} {g : Nat} {l : List Sd} (h : SRow w g 0 l) {j : Nat} {x : Sd} (hx : l[j]? = some x) : w.cell? ⟨g, j * 3, none⟩ = some (.int .i64 x.cell) ∧ w.cell? ⟨g, j * 3 + 1, none⟩ = some (.int .i64 x.side) ∧ w.cell? ⟨g, j * 3 + 2, none⟩ = some (.int .i64 x.key) := by
  have := h.1 j x hx
  simpa using this
theorem SRow.drew {w : World} {g o : Nat} {l : List Sd} (h : SRow w g o l) : SRow w.drew g o l := h

/-- Two seeds as Go compares them. -/
def eqS (x y : Sd) : Bool := x.cell == y.cell && (x.side == y.side && x.key == y.key)

theorem eqS_iff (x y : Sd) : eqS x y = true ↔ x = y := by
  obtain ⟨a, b, c⟩ := x
  obtain ⟨a', b', c'⟩ := y
  simp [eqS]

theorem eqSeed (x y : Sd) (w : World) : (Op.equalIn 10000 52 (.agg #[.int .i64 x.cell, .int .i64 x.side, .int .i64 x.key]) (.agg #[.int .i64 y.cell, .int .i64 y.side, .int .i64 y.key])).run Try.prog w = .ok (eqS x y) w := by
  have u3 := Try.underlying3
  have a3 := Try.isAgg3
  have z3 := Try.sizeOf3
  have hS : Try.prog.underlying 52 = some (.struct (Try.prog.fieldsOf 52)) := by kernel_rfl
  have hp : Try.prog.stoodInHeld 52 = false := by kernel_rfl
  rw [show (10000 : Nat) = 9999 + 1 from rfl, run_equalIn_agg w 9999 52 _ _ hS hp]
  simp only [Program.fieldsOf, Try.underlying52]
  unfold eqS
  generalize x.cell = a
  generalize x.side = b
  generalize x.key = c
  generalize y.cell = a'
  generalize y.side = b'
  generalize y.key = c'
  go_simp
  by_cases h1 : a = a' <;> by_cases h2 : b = b' <;> by_cases h3 : c = c' <;> simp [h1, h2, h3]

structure CompI (l d : List Sd) (n k i : Nat) : Prop where
  len : d.length = n
  ki : k < i
  i_n : i ≤ n
  high : ∀ j, k ≤ j → d[j]? = l[j]?
  sub : (d.take k).Sublist (l.take i)
  mem : ∀ x ∈ l.take i, x ∈ d.take k

theorem take_succ_some {α : Type} {l : List α} {i : Nat} {x : α} (h : l[i]? = some x) : l.take (i + 1) = l.take i ++ [x] := by
  rw [List.take_add_one, h]; rfl
theorem mem_take_some {α : Type} {l : List α} {i k : Nat} {x : α} (h : l[i]? = some x) (hk : i < k) : x ∈ l.take k := by
  refine List.mem_of_getElem? (i := i) ?_
  rw [List.getElem?_take, if_pos hk]; exact h
theorem CompI.start {l : List Sd} {n k : Nat} {x : Sd} (hl : l.length = n) (hk : k + 1 < n) (hx : l[k + 1]? = some x) (hy : l[k]? = some x) : CompI l l n (k + 1) (k + 2) := by
  refine ⟨hl, by omega, by omega, fun _ _ => rfl, ?_, fun z hz => ?_⟩
  · rw [take_succ_some hx]; exact List.sublist_append_left _ _
  · rw [take_succ_some hx, List.mem_append] at hz
    rcases hz with hz | hz
    · exact hz
    · simp at hz; subst hz; exact mem_take_some hy (by omega)
theorem CompI.skip {l d : List Sd} {n k i : Nat} {x : Sd} (h : CompI l d n k (i + 1)) (hi : i + 1 < n) (hx : l[i + 1]? = some x) (hy : l[i]? = some x) : CompI l d n k (i + 2) := by
  refine ⟨h.len, by have := h.ki; omega, by omega, h.high, ?_, fun z hz => ?_⟩
  · rw [take_succ_some hx]; exact h.sub.trans (List.sublist_append_left _ _)
  · rw [take_succ_some hx, List.mem_append] at hz
    rcases hz with hz | hz
    · exact h.mem z hz
    · simp at hz; subst hz; exact h.mem _ (mem_take_some hy (by omega))
theorem CompI.keep {l d : List Sd} {n k i : Nat} {x : Sd} (h : CompI l d n k (i + 1)) (hi : i + 1 < n) (hx : l[i + 1]? = some x) : CompI l (d.set k x) n (k + 1) (i + 2) := by
  have hk := h.ki
  have hkl : k < d.length := by rw [h.len]; omega
  have ht : (d.set k x).take (k + 1) = d.take k ++ [x] := by
    rw [take_succ_some (x := x) (by rw [List.getElem?_set_self hkl]), List.take_set_of_le (by omega)]
  refine ⟨by rw [List.length_set]; exact h.len, by omega, by omega, fun j hj => ?_, ?_, fun z hz => ?_⟩
  · rw [List.getElem?_set_ne (by omega)]; exact h.high j (by omega)
  · rw [ht, take_succ_some hx]; exact h.sub.append (List.Sublist.refl _)
  · rw [take_succ_some hx, List.mem_append] at hz
    rw [ht, List.mem_append]
    rcases hz with hz | hz
    · exact .inl (h.mem z hz)
    · exact .inr hz

theorem SRow.store {w : World} {g : Nat} {d : List Sd} (h : SRow w g 0 d) {k : Nat} (hk : k < d.length) (x : Sd) : SRow (w.setCells g (k * 3) [.int .i64 x.cell, .int .i64 x.side, .int .i64 x.key]) g 0 (d.set k x) := by
  refine ⟨fun j y hy => ?_, fun q hq => ?_⟩
  · by_cases e : j = k
    · subst e
      rw [List.getElem?_set_self hk] at hy
      injection hy with hy; subst hy
      have hs : ∀ q, q < 3 → (w.cell? ⟨g, j * 3 + q, none⟩).isSome = true := fun q hq => by
        obtain ⟨c0, c1, c2⟩ := h.at (List.getElem?_eq_getElem hk)
        obtain rfl | rfl | rfl : q = 0 ∨ q = 1 ∨ q = 2 := by omega
        · rw [Nat.add_zero, c0]; rfl
        · rw [c1]; rfl
        · rw [c2]; rfl
      have := World.cell?_setCells_in g [.int .i64 x.cell, .int .i64 x.side, .int .i64 x.key] (j * 3) w (fun q hq => hs q (by simpa using hq))
      rw [Nat.zero_add]
      exact ⟨this 0 (by simp), this 1 (by simp), this 2 (by simp)⟩
    · rw [List.getElem?_set_ne (fun h => e h.symm)] at hy
      have := h.1 j y hy
      have ho : ∀ q, q < 3 → (w.setCells g (k * 3) [.int .i64 x.cell, .int .i64 x.side, .int .i64 x.key]).cell? ⟨g, 0 + j * 3 + q, none⟩ = w.cell? ⟨g, 0 + j * 3 + q, none⟩ := fun q hq =>
        World.cell?_setCells_out g _ _ w _ (fun _ _ => by simp only [List.length_cons, List.length_nil]; omega)
      rw [← ho 1 (by omega), ← ho 2 (by omega), ← Nat.add_zero (0 + j * 3), ← ho 0 (by omega)] at this
      exact this
  · rw [World.frozen?_setCells]; exact h.2 q (by simpa using hq)

theorem SRow.isIn {w : World} {g : Nat} {d : List Sd} (h : SRow w g 0 d) (q : Nat) (hq : q < d.length * 3) : (w.cell? ⟨g, q, none⟩).isSome = true := by
  have hx : d[q / 3]? = some (d[q / 3]'(by omega)) := List.getElem?_eq_getElem _
  obtain ⟨c0, c1, c2⟩ := h.at hx
  have hr : q = q / 3 * 3 ∨ q = q / 3 * 3 + 1 ∨ q = q / 3 * 3 + 2 := by omega
  generalize d[q / 3]'(by omega) = x at *
  generalize q / 3 = m at *
  rcases hr with rfl | rfl | rfl
  · rw [c0]; rfl
  · rw [c1]; rfl
  · rw [c2]; rfl
/-- What lies ahead of the cells that were written. -/
theorem SRow.rds {w : World} {g : Nat} {d : List Sd} (h : SRow w g 0 d) (k : Nat) (vs : List Value) : RdS (w.setCells g (k * 3) vs) (some ⟨g, 0, none⟩) (d.take k) := by
  intro s l' e
  refine ⟨g, 0, rfl, fun j x hx => ?_⟩
  rw [List.getElem?_take] at hx
  by_cases hj : j < k
  · rw [if_pos hj] at hx
    have := h.1 j x hx
    have ho : ∀ q, q < 3 → (w.setCells g (k * 3) vs).cell? ⟨g, 0 + j * 3 + q, none⟩ = w.cell? ⟨g, 0 + j * 3 + q, none⟩ := fun q hq =>
      World.cell?_setCells_out g _ _ w _ (fun _ _ => .inl (by show 0 + j * 3 + q < k * 3; omega))
    rw [← ho 1 (by omega), ← ho 2 (by omega), ← Nat.add_zero (0 + j * 3), ← ho 0 (by omega)] at this
    exact this
  · rw [if_neg hj] at hx; simp at hx

theorem nw_setCells {w0 w : World} {g : Nat} (h : Nw w0 w) (hg : w0.heap.size ≤ g) (vs : List Value) : ∀ o, Nw w0 (w.setCells g o vs) := by
  intro o
  induction vs generalizing w o with
  | nil => exact h
  | cons v vs ih => exact ih (Fr.setCell h (p := ⟨g, o, none⟩) (fun hlt => by simp at hlt; omega) v) (o + 1)
theorem size_setCells (w : World) (g : Nat) (vs : List Value) : ∀ o, (w.setCells g o vs).heap.size = w.heap.size := by
  intro o
  induction vs generalizing w o with
  | nil => rfl
  | cons v vs ih => exact (ih (w.setCell ⟨g, o, none⟩ v) (o + 1)).trans (size_setCell _ _ _)

theorem run_clear_k {P : Program} (w : World) (t e ty : TypeId) (z : Value) (k : Nat) (ht : P.underlying t = some (.slice e)) (hv : ∀ w, (zeroValue e).run P w = .ok z w) (hzn : ∀ n, (Builtin.zeroCells z.cells n).toList.length = n * k) (h1 : ∀ n, ∀ v ∈ (Builtin.zeroCells z.cells n).toList, v.oneCell' = true) (b o n c : Nat) (hn : 0 < n)
    (hc : ∀ j, j < n * k → (w.cell? ⟨b, o + j, none⟩).isSome = true) (hf : ∀ j, j < n * k → w.frozen? ⟨b, o + j, none⟩ = false) :
    (Builtin.clear_ #[t] ty #[.slice (some ⟨b, o, none⟩) n c]).run P w = .ok (.tuple #[]) (w.setCells b o (Builtin.zeroCells z.cells n).toList) := by
  have hst := run_storeCells_cells (P := P) b o (Builtin.zeroCells z.cells n).toList 0 w (by rw [hzn]; simpa using hc) (by rw [hzn]; simpa using hf) (h1 n)
  simp only [Nat.add_zero] at hst
  obtain ⟨m, rfl⟩ : ∃ m, n = m + 1 := ⟨n - 1, by omega⟩
  simp [Builtin.clear_, run_underlying ht, hv, hst]

theorem run_clearS (w : World) (ty : TypeId) (b o n c : Nat) (hn : 0 < n) (hc : ∀ j, j < n * 3 → (w.cell? ⟨b, o + j, none⟩).isSome = true) (hf : ∀ j, j < n * 3 → w.frozen? ⟨b, o + j, none⟩ = false) :
    (Builtin.clear_ #[26] ty #[.slice (some ⟨b, o, none⟩) n c]).run Try.prog w = .ok (.tuple #[]) (w.setCells b o (Builtin.zeroCells (Value.agg #[.int .i64 0, .int .i64 0, .int .i64 0]).cells n).toList) := by
  refine run_clear_k w _ 52 ty _ 3 Try.underlying26 (fun w => Try.zeroValue52 w) (fun n => ?_) (fun n v hv => ?_) b o n c hn hc hf
  · simp [Builtin.zeroCells, Value.cells]
  · simp only [Builtin.zeroCells, Value.cells, Array.toList_map, List.mem_map] at hv
    obtain ⟨i, _, rfl⟩ := hv
    have : i % 3 = 0 ∨ i % 3 = 1 ∨ i % 3 = 2 := by omega
    show (#[Value.int .i64 0, Value.int .i64 0, Value.int .i64 0][i % 3]!).oneCell' = true
    rcases this with e | e | e <;> rw [e] <;> rfl

def CompPost (w0 : World) (g n cap : Nat) (l : List Sd) (e : Ending) (w' : World) : Prop := ∃ l', e = .returned (.slice (some ⟨g, 0, none⟩) l'.length cap) ∧ l'.Sublist l ∧ (∀ x ∈ l, x ∈ l') ∧ RdS w' (some ⟨g, 0, none⟩) l' ∧ Nw w0 w'

theorem rds_of {w : World} {g : Nat} {l : List Sd} (h : SRow w g 0 l) : RdS w (some ⟨g, 0, none⟩) l := fun s l' e => ⟨g, 0, rfl, h.1⟩

set_option maxRecDepth 100000 in
set_option maxHeartbeats 2000000 in
theorem compact_any (w0 : World) (g cap : Nat) (l : List Sd) (w : World) (h : SRow w g 0 l) (hn : Nw w0 w) (hg : w0.heap.size ≤ g) (hgw : g < w.heap.size) (hl : l.length ≤ 1048576) (hc : l.length ≤ cap) (hcap : cap ≤ maxLen) :
    Calls Try.prog 57 #[.slice (some ⟨g, 0, none⟩) l.length cap] w fun e w' => CompPost w0 g l.length cap l e w' := by
  by_cases h2 : l.length < 2
  · have HP : Hid (CompPost w0 g l.length cap l (.returned (.slice (some ⟨g, 0, none⟩) l.length cap)) w) := ⟨l, rfl, List.Sublist.refl l, fun x hx => hx, rds_of h, hn⟩
    have i0 : (l.length : Int) < 2 := by omega
    clear h
    generalize hk : l.length = n at *
    go_enter Try.func57, Try.ntmps57
    go_wp2
    go_ret
    exact HP.out
  · have i0 : ¬ (l.length : Int) < 2 := by omega
    have HS := Lib.hid h
    have HN := Lib.hid hn
    have HX : Hid (∀ W, SRow W g 0 l → Nw w0 W → CompPost w0 g l.length cap l (.returned (.slice (some ⟨g, 0, none⟩) l.length cap)) W) := fun W hW hNW => ⟨l, rfl, List.Sublist.refl l, fun x hx => hx, rds_of hW, hNW⟩
    clear h hn
    generalize hk : l.length = n at *
    have HK := Lib.hid hk
    clear hk
    go_enter Try.func57, Try.ntmps57
    go_wp2_with fail
    go_loopg [3] (n - 1) (fun k i wr => Hid (SRow wr g 0 l) ∧ Hid (Nw w0 wr) ∧ g < wr.heap.size ∧ ∃ m : Nat, m + k = n ∧ 1 ≤ m ∧ i = .int .i64 (m : Int))
    case atStart => exact ⟨HS, HN, hgw, 1, by omega, by omega, rfl⟩
    case round =>
      obtain ⟨hS, hN, hgw, m1, hm, hm1, rfl⟩ := hrel
      clear HS HN
      obtain ⟨m, e⟩ : ∃ m, m1 = m + 1 := ⟨m1 - 1, by omega⟩
      by_cases hlt : m1 < n
      · have hx : l[m1]? = some (l[m1]'(by rw [HK.out]; exact hlt)) := List.getElem?_eq_getElem _
        have hy : l[m]? = some (l[m]'(by rw [HK.out]; omega)) := List.getElem?_eq_getElem _
        generalize l[m1]'(by rw [HK.out]; exact hlt) = x at hx
        generalize l[m]'(by rw [HK.out]; omega) = y at hy
        obtain ⟨x0, x1, x2⟩ := hS.out.at hx
        obtain ⟨y0, y1, y2⟩ := hS.out.at hy
        have HXX := Lib.hid hx
        have HYY := Lib.hid hy
        have HE := Lib.hid e
        clear hx hy
        have e1 : (m1 : Int) - 1 = m := by omega
        have e2 : IntKind.i64.wrap (m : Int) = m := IntWalk.i64_in _ (by omega)
        have i1 : (m1 : Int) < n := by omega
        have i2 : (m : Int) < n := by omega
        clear e
        have hE := eqSeed x y
        have HD : Hid (∀ nq, SRow (wr.drewN nq) g 0 l ∧ Nw w0 (wr.drewN nq)) := fun nq => ⟨hS.out, Fr.drewN hN.out nq⟩
        cases hb : eqS x y with
        | false =>
          rw [hb] at hE
          have hgk : m1 + 1 + (gk - 1) = n := by omega
          clear hb
          go_wp2_with fail
          go_quiet (fail)
          go_wp2
          go_roundg (gk - 1)
          case measure => omega
          case rel => exact ⟨(HD.out nq).1, (HD.out nq).2, hgw, m1 + 1, hgk, by omega, by go_num⟩
        | true =>
          have hxy := (eqS_iff x y).1 hb
          subst hxy
          rw [hb] at hE
          have HI : Hid (CompI l l n m1 (m1 + 1)) := by
            obtain rfl := HE.out
            exact CompI.start HK.out hlt HXX.out HYY.out
          have hne : ¬ cap = m1 := by omega
          have hmc : (m1 : Int) ≤ cap := by omega
          have hmn : (m1 : Int) ≤ n := by omega
          clear hb HXX HYY
          go_wp2_with fail
          go_quiet (fail)
          clear hE x0 x1 x2 y0 y1 y2 e1 e2
          go_wp2_with fail
          generalize hr : n - m1 = r
          generalize cap - m1 = cr
          go_loopg [3, 5] r (fun q x3 x5 wr => ∃ (k j : Nat) (d : List Sd), x3 = .int .i64 (k : Int) ∧ x5 = .int .i64 (j : Int) ∧ 1 ≤ j ∧ j + q = r + 1 ∧ Hid (CompI l d n k (m1 + j)) ∧ Hid (SRow wr g 0 d) ∧ Hid (Nw w0 wr) ∧ g < wr.heap.size)
          case atStart => exact ⟨m1, 1, l, rfl, rfl, by omega, by omega, HI, (HD.out nq).1, (HD.out nq).2, hgw⟩
          case round =>
            obtain ⟨k, j, d, rfl, rfl, j1, hgj, hI, hS2, hN2, hgw2⟩ := hrel
            clear HI HD hS hN
            obtain ⟨p, e⟩ : ∃ p, j = p + 1 := ⟨j - 1, by omega⟩
            have hkd := hI.out.ki
            have hjn := hI.out.i_n
            have hdn := hI.out.len
            by_cases hlt2 : j < r
            · have hx : l[m1 + j]? = some (l[m1 + j]'(by rw [HK.out]; omega)) := List.getElem?_eq_getElem _
              have hy : l[m1 + p]? = some (l[m1 + p]'(by rw [HK.out]; omega)) := List.getElem?_eq_getElem _
              generalize l[m1 + j]'(by rw [HK.out]; omega) = x at hx
              generalize l[m1 + p]'(by rw [HK.out]; omega) = y at hy
              obtain ⟨x0, x1, x2⟩ := hS2.out.at ((hI.out.high (m1 + j) (by omega)).trans hx)
              obtain ⟨y0, y1, y2⟩ := hS2.out.at ((hI.out.high (m1 + p) (by omega)).trans hy)
              rw [Nat.add_mul] at x0 x1 x2 y0 y1 y2
              have HXX := Lib.hid hx
              have HYY := Lib.hid hy
              have HE2 := Lib.hid e
              have e1 : (j : Int) - 1 = p := by omega
              have e2 : IntKind.i64.wrap (p : Int) = p := IntWalk.i64_in _ (by omega)
              have i3 : (j : Int) < r := by omega
              have i4 : (p : Int) < r := by omega
              have i5 : (k : Int) < n := by omega
              have hE := eqSeed x y
              have hgj2 : j + 1 + (gk - 1) = r + 1 := by omega
              clear hx hy e
              cases hb : eqS x y with
              | true =>
                have hxy := (eqS_iff x y).1 hb
                subst hxy
                rw [hb] at hE
                have HI2 : Hid (CompI l d n k (m1 + (j + 1))) := by
                  obtain rfl := HE2.out
                  exact CompI.skip (i := m1 + p) hI.out (by omega) HXX.out HYY.out
                clear hb HXX HYY hI
                go_wp2_with fail
                go_quiet (fail)
                go_wp2
                go_roundg (gk - 1)
                case measure => omega
                case rel => exact ⟨k, j + 1, d, rfl, by go_num, by omega, hgj2, HI2, hS2.out, Fr.drewN hN2.out _, hgw2⟩
              | false =>
                rw [hb] at hE
                have hkl : d[k]? = some (d[k]'(by omega)) := List.getElem?_eq_getElem _
                generalize d[k]'(by omega) = o at hkl
                obtain ⟨o0, o1, o2⟩ := hS2.out.at hkl
                have f0 : wr.frozen? ⟨g, k * 3, none⟩ = false := by have := hS2.out.2 (k * 3) (by omega); rwa [Nat.zero_add] at this
                have f1 : wr.frozen? ⟨g, k * 3 + 1, none⟩ = false := by have := hS2.out.2 (k * 3 + 1) (by omega); rwa [Nat.zero_add] at this
                have f2 : wr.frozen? ⟨g, k * 3 + 2, none⟩ = false := by have := hS2.out.2 (k * 3 + 2) (by omega); rwa [Nat.zero_add] at this
                have HI2 : Hid (CompI l (d.set k x) n (k + 1) (m1 + (j + 1))) := by
                  obtain rfl := HE2.out
                  exact CompI.keep (i := m1 + p) hI.out (by omega) HXX.out
                have HS3 : Hid (∀ nq, SRow ((wr.drewN nq).setCells g (k * 3) [.int .i64 x.cell, .int .i64 x.side, .int .i64 x.key]) g 0 (d.set k x)) := fun nq => SRow.store (w := wr.drewN nq) hS2.out (by omega) x
                have HN3 : Hid (∀ nq, Nw w0 ((wr.drewN nq).setCells g (k * 3) [.int .i64 x.cell, .int .i64 x.side, .int .i64 x.key])) := fun nq => nw_setCells (Fr.drewN hN2.out nq) hg _ _
                have HG3 : Hid (∀ nq, g < ((wr.drewN nq).setCells g (k * 3) [.int .i64 x.cell, .int .i64 x.side, .int .i64 x.key]).heap.size) := fun nq => by rw [size_setCells]; exact hgw2
                clear hb HXX HYY hI hkl hS2 hN2 hgw2
                go_wp2_with fail
                go_quiet (fail)
                clear hE y0 y1 y2 e1 e2
                go_wp2
                go_roundg (gk - 1)
                case measure => omega
                case rel => exact ⟨k + 1, j + 1, d.set k x, by go_num, by go_num, by omega, hgj2, HI2, HS3.out _, HN3.out _, HG3.out _⟩
            · have hend : m1 + j = n := by omega
              have hI' : CompI l d n k n := by have := hI.out; rwa [hend] at this
              have hkn : k < n := by omega
              have hcl : ∀ ty, (Builtin.clear_ #[26] ty #[.slice (some ⟨g, k * 3, none⟩) (n - k) (cap - k)]).run Try.prog wr = .ok (.tuple #[]) (wr.setCells g (k * 3) (Builtin.zeroCells (Value.agg #[.int .i64 0, .int .i64 0, .int .i64 0]).cells (n - k)).toList) :=
                fun ty => run_clearS wr ty g (k * 3) (n - k) (cap - k) (by omega) (fun q hq => by
                  have := (hS2.out).isIn (k * 3 + q) (by omega)
                  exact this) (fun q hq => by
                  have := hS2.out.2 (k * 3 + q) (by omega)
                  rwa [Nat.zero_add] at this)
              generalize (Builtin.zeroCells (Value.agg #[.int .i64 0, .int .i64 0, .int .i64 0]).cells (n - k)).toList = zs at hcl
              have HP : Hid (CompPost w0 g n cap l (.returned (.slice (some ⟨g, 0, none⟩) k cap)) (wr.setCells g (k * 3) zs)) := by
                refine ⟨d.take k, by rw [List.length_take, hdn, Nat.min_eq_left (by omega)], ?_, ?_, hS2.out.rds k zs, nw_setCells hN2.out hg _ _⟩
                · have := hI'.sub; rwa [List.take_of_length_le (l := l) (by rw [HK.out]; omega)] at this
                · intro x hx; exact hI'.mem x (by rwa [List.take_of_length_le (l := l) (by rw [HK.out]; omega)])
              have i6 : (k : Int) ≤ n := by omega
              have i7 : (k : Int) ≤ cap := by omega
              have i8 : ¬ (j : Int) < r := by omega
              have hne2 : ¬ cap = k := by omega
              clear hI hS2 hN2 hI' hgw2
              go_wp2
              go_ret
              exact HP.out
      · have HP := Lib.hid (HX.out wr hS.out hN.out)
        have i1 : ¬ (m1 : Int) < n := by omega
        clear HX hS hN
        go_wp2
        go_ret
        exact HP.out
end Swp
end Go.Proofs.Ytjnjppikhdfomaa

namespace Go.Proofs.Ytjnjppikhdfomaa
open Go Go.RowKit Go.Proofs B Rng
namespace Swp

set_option maxHeartbeats 400000 in
theorem compact_0 (A : Option Addr) (cap : Nat) (w : World) : Calls Try.prog 57 #[.slice A 0 cap] w fun e w' => e = .returned (.slice A 0 cap) ∧ w = w' := by
  go_enter Try.func57, Try.ntmps57
  go_wp2
  go_ret
  exact ⟨rfl, rfl⟩

def SortedPost (w : World) (l : List Sd) (e : Ending) (w' : World) : Prop := ∃ A c l', e = .returned (.slice A l'.length c) ∧ RdS w' A l' ∧ LeK l' ∧ (∀ s, s ∈ l' ↔ s ∈ l) ∧ l'.length ≤ l.length ∧ l'.length ≤ c ∧ Nw w w' ∧ (l' ≠ [] → ∃ b o, A = some ⟨b, o, none⟩ ∧ w.heap.size ≤ b)

set_option maxRecDepth 100000 in
set_option maxHeartbeats 1000000 in
theorem sort_any (A : Option Addr) (l : List Sd) (cap : Nat) (w : World) (h : RdS w A l) (hl : l.length ≤ 1048576) :
    Calls Try.prog 30 #[.slice A l.length cap] w fun e w' => SortedPost w l e w' := by
  have HC := Lib.hid (clone_any A l cap w h hl)
  cases l with
  | nil =>
    clear h
    have HS := fun A cap c w => Lib.hid (sortf_0 A cap c w)
    have HK := fun A cap w => Lib.hid (compact_0 A cap w)
    have HP : Hid (∀ A c W, Nw w W → SortedPost w [] (.returned (.slice A 0 c)) W) := fun A c W hW => ⟨A, c, [], rfl, fun s l' e => by simp at e, List.Pairwise.nil, fun s => Iff.rfl, Nat.le_refl _, Nat.zero_le _, hW, fun h => absurd rfl h⟩
    go_enter Try.func30, Try.ntmps30
    go_wp2_with fail
    refine (HC.out).mono ?_
    rintro e w' ⟨v, rfl, ho, hN, -⟩
    obtain ⟨A', c, rfl, -⟩ := ho.slice
    have HP2 := Lib.hid (HP.out A' c w' hN)
    clear ho hN HP HC
    go_wp2_with (first | (go_at_call 55; refine ((HS _ _ _ _).out).mono ?_; rintro e w' ⟨rfl, rfl⟩) | (go_at_call 57; refine ((HK _ _ _).out).mono ?_; rintro e w' ⟨rfl, rfl⟩))
    go_ret
    exact HP2.out
  | cons s0 l0 =>
    have hpos : 0 < (s0 :: l0).length := by simp
    generalize (s0 :: l0) = l at *
    clear h
    have HX : Hid (∀ (l2 l' : List Sd) g c W, l2.Perm l → LeK l2 → w.heap.size ≤ g → l.length ≤ c → l'.Sublist l2 → (∀ x ∈ l2, x ∈ l') → RdS W (some ⟨g, 0, none⟩) l' → Nw w W → SortedPost w l (.returned (.slice (some ⟨g, 0, none⟩) l'.length c)) W) := fun l2 l' g c W hp hk hg hcc hs hm hr hw =>
      ⟨some ⟨g, 0, none⟩, c, l', rfl, hr, List.Pairwise.sublist hs hk, fun s => ⟨fun h => hp.mem_iff.1 (hs.subset h), fun h => hm s (hp.mem_iff.2 h)⟩, by rw [← hp.length_eq]; exact hs.length_le, Nat.le_trans (by rw [← hp.length_eq]; exact hs.length_le) hcc, hw, fun _ => ⟨g, 0, rfl, hg⟩⟩
    have HSF := fun g cap W h1 h2 h3 h4 => Lib.hid (sortf_any w g cap l W h1 h2 h3 h4 hl)
    have HCF := fun g cap l2 W h1 h2 h3 h4 h5 h6 h7 => Lib.hid (compact_any w g cap l2 W h1 h2 h3 h4 h5 h6 h7)
    have HL := Lib.hid hl
    generalize hn : l.length = n at *
    go_enter Try.func30, Try.ntmps30
    go_wp2_with fail
    refine (HC.out).mono ?_
    rintro e w' ⟨v, rfl, ho, hN, hg⟩
    obtain ⟨A', c, rfl, hA, hm1, -, hnc, hcm⟩ := ho.slice
    obtain ⟨g, rfl⟩ := hA hpos
    have hgw := ho.lt g rfl
    have HS := HSF g c w' (srow_of_own ho) hN (hg g rfl) hgw
    have hg0 := hg g rfl
    have Hnc := Lib.hid hnc
    clear HC ho hN hg hA HSF hm1
    go_wp2_with fail
    refine (HS.out).mono ?_
    rintro e w2 ⟨rfl, l2, hp, hk, hr, hN2, hg2⟩
    have hlen : l2.length = n := by rw [hp.length_eq, hn]
    have HK := HCF g c l2 w2 hr hN2 hg0 hg2 (by rw [hlen]; exact HL.out) (by rw [hlen]; exact hnc) hcm
    rw [hlen] at HK
    have HP : Hid (∀ (l' : List Sd) W, l'.Sublist l2 → (∀ x ∈ l2, x ∈ l') → RdS W (some ⟨g, 0, none⟩) l' → Nw w W → SortedPost w l (.returned (.slice (some ⟨g, 0, none⟩) l'.length c)) W) := fun l' W => HX.out l2 l' g c W hp hk hg0 Hnc.out
    clear HS hp hk hr hN2 HCF HX
    go_wp2_with fail
    refine (HK.out).mono ?_
    rintro e w3 ⟨l', rfl, h1, h2, h3, h4⟩
    have HP2 := Lib.hid (HP.out l' w3 h1 h2 h3 h4)
    clear HP h1 h2 h3 h4 HK
    generalize l'.length = n' at HP2
    go_wp2
    go_ret
    exact HP2.out
end Swp
end Go.Proofs.Ytjnjppikhdfomaa

namespace Go.Proofs.Ytjnjppikhdfomaa
open Go Go.RowKit Go.Proofs B Rng
namespace Swp

theorem Nw.undrew {w w' : World} (h : Nw w.drew w') : Nw w w' := ⟨h.os, h.tape, h.output, h.size, h.block⟩

theorem cnt_nil (n : Nat) : cnt (fun _ => []) n = 0 := by
  induction n with
  | zero => rfl
  | succ n ih => unfold cnt; rw [ih]; rfl

theorem at0_rep (n : Nat) (c : Int) (h0 : 0 ≤ c) (h1 : c < n) : at0 (List.replicate n inf) c = inf := by
  unfold at0
  rw [List.getD_eq_getElem?_getD, List.getElem?_replicate, if_pos (by omega)]; rfl

theorem SInv.start {W H : Int} {C : List Int} {SS todo : List Sd} (hS : SeedsOK C SS) (hk : LeK todo) (hm : ∀ s, s ∈ todo ↔ s ∈ SS) : SInv W H C SS 0 [] 0 ⟨0, fun _ => []⟩ todo (List.replicate C.length inf) := by
  have hq : ∀ k c, ¬ InQ 0 (fun _ => []) k c := fun k c h => by unfold InQ at h; simp at h
  refine { a0 := Int.le_refl _, a1 := ?_, len := by simp, rng := fun k c h => absurd h (hq k c), lowq := fun E _ k c h => absurd h (hq k c), lowd := ?_, fin := ?_, edge := ?_, seed := fun s hs => .inl ((hm s).2 hs), sort := hk, todo := fun s hs => ⟨(hm s).1 hs, (hS s ((hm s).1 hs)).2.2.2.1⟩, cnt := ?_ }
  · have := ub_ge (C := C) (D := List.replicate C.length inf) (by simp); omega
  · intro E hE c h0 h1; rw [at0_rep _ c h0 h1]; exact hE.top c h0 h1
  · intro c h0 h1 h2; exact absurd (at0_rep _ c h0 h1) h2
  · intro m c m0 m1 c0 c1 _ _ _ h2; exact absurd (at0_rep _ m m0 m1) h2
  · rw [cnt_nil]; rfl

/-- The sweeper that Spread makes. -/
theorem sw_start {w Wb : World} {W H : Int} {C : List Int} {tb tof tcap r g n : Nat} {A : Option Addr} {c : Nat} {l' : List Sd}
    (hn : Nw w Wb) (hC : ∀ j b, C[j]? = some b → w.cell? ⟨tb, tof + j, none⟩ = some (.int .u8 b)) (htb : tb < w.heap.size) (hr : w.heap.size ≤ r) (hring : RingAt Wb r (fun k => k = r) 0 0 0 (fun _ => [])) (hrw : r < Wb.heap.size)
    (hg : w.heap.size ≤ g) (hgr : g ≠ r) (ho : Own Wb 3 1 (.slice (some ⟨g, 0, none⟩) n n) n ((List.replicate n inf).map (Value.int .i64))) (hrd : RdS Wb A l') (hc : l'.length ≤ c)
    (hfr : l' ≠ [] → ∃ b o, A = some ⟨b, o, none⟩ ∧ w.heap.size ≤ b ∧ b ≠ r ∧ b ≠ g ∧ b < Wb.heap.size) :
    ∃ qb, SwPost w ⟨Wb.heap.size, r, g, tb, tof, tcap, qb, n, W, H, C⟩ (fun k => w.heap.size ≤ k) 0 0 ⟨0, fun _ => []⟩ l' (List.replicate n inf) (Wb.alloc (.cells #[.int .i64 W, .int .i64 H, .slice (some ⟨tb, tof, none⟩) C.length tcap, .pointer (some ⟨r, 0, none⟩), .slice A l'.length c, .slice (some ⟨g, 0, none⟩) n n] 71)) := by
  have hgw := ho.lt g rfl
  have hsz := hn.size
  obtain ⟨qb, hq0, hq1, hq2, hq3⟩ : ∃ qb, (l' ≠ [] → ∃ o, A = some ⟨qb, o, none⟩) ∧ qb < Wb.heap.size ∧ qb ≠ r ∧ qb ≠ g := by
    by_cases e : l' = []
    · exact ⟨tb, fun h => absurd e h, by omega, by omega, by omega⟩
    · obtain ⟨b, o, ha, h1, h2, h3, h4⟩ := hfr e
      exact ⟨b, fun _ => ⟨o, ha⟩, h4, h2, h3⟩
  refine ⟨qb, fun k => k = r, ⟨A, c, ?_⟩, fun k hk => .inl (by show w.heap.size ≤ k; omega), (hn.mono (fun _ _ h => h.elim)).alloc _⟩
  have hN : Nw Wb (Wb.alloc (.cells #[.int .i64 W, .int .i64 H, .slice (some ⟨tb, tof, none⟩) C.length tcap, .pointer (some ⟨r, 0, none⟩), .slice A l'.length c, .slice (some ⟨g, 0, none⟩) n n] 71)) := Nw.alloc _ _
  refine { row := by simpa using Row.new Wb _ _, cp := hc, todo := ?_, bytes := fun j b hb => hN.cell (hn.cell (hC j b hb)), dist := ?_, ring := hring.other hN (fun _ _ h => h), ns := ?_, nd := hgr, nt := ?_, nq := hq2, sd := ?_, ts := ?_, td := ?_, qs := ?_, qd := hq3, tlt := ?_, qlt := ?_ }
  · intro sd l e
    obtain ⟨b, o, ha, hcc⟩ := hrd sd l e
    obtain ⟨o', ha'⟩ := hq0 (by rw [e]; simp)
    rw [ha] at ha'; injection ha' with ha'; injection ha' with e1 e2
    subst e1
    exact ⟨o, ha, fun j x hx => ⟨hN.cell (hcc j x hx).1, hN.cell (hcc j x hx).2.1, hN.cell (hcc j x hx).2.2⟩⟩
  · have := ho.alloc (.cells #[.int .i64 W, .int .i64 H, .slice (some ⟨tb, tof, none⟩) C.length tcap, .pointer (some ⟨r, 0, none⟩), .slice A l'.length c, .slice (some ⟨g, 0, none⟩) n n] 71)
    simpa using this
  · show ¬ Wb.heap.size = r; omega
  · show ¬ tb = r; omega
  · show Wb.heap.size ≠ g; omega
  · show tb ≠ Wb.heap.size; omega
  · show tb ≠ g; omega
  · show qb ≠ Wb.heap.size; omega
  · show tb < _; rw [size_alloc]; omega
  · show qb < _; rw [size_alloc]; omega
end Swp
end Go.Proofs.Ytjnjppikhdfomaa

namespace Go.Proofs.Ytjnjppikhdfomaa
open Go Go.RowKit Go.Proofs B Rng
namespace Swp

def NewP (W : World) (e : Ending) (W1 : World) : Prop := ∃ r, e = .returned (.pointer (some ⟨r, 0, none⟩)) ∧ W.heap.size ≤ r ∧ r < W1.heap.size ∧ (∀ V, Nw W1 V → RingAt V r (fun k => k = r) 0 0 0 (fun _ => [])) ∧ Nw W W1
theorem new_p (W : World) : Calls Try.prog 29 #[.int .i64 0] W fun e W1 => NewP W e W1 :=
  (new_any W).mono fun e W1 ⟨he, hr, hn, hs⟩ => ⟨W.heap.size, he, Nat.le_refl _, hs, fun V hV => hr.other hV (fun _ _ h => h), hn⟩

def SortP (l : List Sd) (W : World) (e : Ending) (W2 : World) : Prop := ∃ A c l', e = .returned (.slice A l'.length c) ∧ (∀ V, Nw W2 V → RdS V A l') ∧ LeK l' ∧ (∀ s, s ∈ l' ↔ s ∈ l) ∧ l'.length ≤ l.length ∧ l'.length ≤ c ∧ Nw W W2 ∧ (l' ≠ [] → ∃ b o, A = some ⟨b, o, none⟩ ∧ W.heap.size ≤ b ∧ b < W2.heap.size)
theorem sort_p (A : Option Addr) (l : List Sd) (cap : Nat) (w : World) (h : RdS w A l) (hl : l.length ≤ 1048576) (W : World) (hW : Nw w W) : Calls Try.prog 30 #[.slice A l.length cap] W fun e W2 => SortP l W e W2 :=
  (sort_any A l cap W (h.nw hW) hl).mono fun e W2 ⟨A', c, l', he, hr, hk, hm, h1, h2, hn, hf⟩ => ⟨A', c, l', he, fun V hV => hr.nw hV, hk, hm, h1, h2, hn, fun hne => by
    obtain ⟨b, o, ha, hb⟩ := hf hne
    refine ⟨b, o, ha, hb, ?_⟩
    cases l' with
    | nil => exact absurd rfl hne
    | cons x l' =>
      obtain ⟨b', o', ha', hc⟩ := hr x l' rfl
      rw [ha] at ha'; injection ha' with ha'; injection ha' with e1 e2
      subst e1
      exact World.block_lt_of_cell? W2 _ (hc 0 x rfl).1⟩

def RepP (n : Nat) (W : World) (e : Ending) (W3 : World) : Prop := ∃ g, e = .returned (.slice (some ⟨g, 0, none⟩) n n) ∧ W.heap.size ≤ g ∧ Own W3 3 1 (.slice (some ⟨g, 0, none⟩) n n) n ((List.replicate n inf).map (Value.int .i64)) ∧ Nw W W3
theorem rep_p (xb n : Nat) (hn : 1 ≤ n) (hn2 : n ≤ 1048576) (W : World) (hv : W.cell? ⟨xb, 0, none⟩ = some (.int .i64 1099511627776)) : Calls Try.prog 31 #[.slice (some ⟨xb, 0, none⟩) 1 1, .int .i64 n] W fun e W3 => RepP n W e W3 :=
  (repeat_any xb 0 1 n inf W hv hn hn2).mono fun e W3 ⟨g, he, hg, ho, hN⟩ => ⟨g, he, hg, ho, hN⟩

theorem new_q (V X : World) (hX : Nw V X) : Calls Try.prog 29 #[.int .i64 0] X fun e W1 => NewP V e W1 ∧ Nw X W1 :=
  (new_p X).mono fun e W1 ⟨r, he, h1, h2, h3, h4⟩ => ⟨⟨r, he, Nat.le_trans hX.size h1, h2, h3, hX.trans h4⟩, h4⟩
theorem sort_q (A : Option Addr) (l : List Sd) (cap : Nat) (w : World) (h : RdS w A l) (hl : l.length ≤ 1048576) (V X : World) (hW : Nw w V) (hX : Nw V X) : Calls Try.prog 30 #[.slice A l.length cap] X fun e W2 => SortP l V e W2 ∧ Nw X W2 :=
  (sort_p A l cap w h hl X (hW.trans hX)).mono fun e W2 ⟨A', c, l', h1, h2, h3, h4, h5, h6, h7, h8⟩ => ⟨⟨A', c, l', h1, h2, h3, h4, h5, h6, hX.trans h7, fun hne => by
    obtain ⟨b, o, a1, a2, a3⟩ := h8 hne
    exact ⟨b, o, a1, Nat.le_trans hX.size a2, a3⟩⟩, h7⟩
theorem rep_q (xb n : Nat) (hn : 1 ≤ n) (hn2 : n ≤ 1048576) (V X : World) (hX : Nw V X) (hv : X.cell? ⟨xb, 0, none⟩ = some (.int .i64 1099511627776)) : Calls Try.prog 31 #[.slice (some ⟨xb, 0, none⟩) 1 1, .int .i64 n] X fun e W3 => RepP n V e W3 :=
  (rep_p xb n hn hn2 X hv).mono fun e W3 ⟨g, h1, h2, h3, h4⟩ => ⟨g, h1, Nat.le_trans hX.size h2, h3, hX.trans h4⟩

theorem cell_newn (w : World) (cs : Array Value) (t : TypeId) (j : Nat) (u : Value) (h : cs[j]? = some u) : (w.alloc (.cells cs t)).cell? ⟨w.heap.size, j, none⟩ = some u := (B.Row.cell (B.Row.new w cs t) j).trans h
def Sp3 (W H : Int) (T tb tof n tcap : Nat) (w' : World) : Prop := w'.cell? ⟨T, 0, none⟩ = some (.int .i64 W) ∧ w'.cell? ⟨T, 1, none⟩ = some (.int .i64 H) ∧ w'.cell? ⟨T, 2, none⟩ = some (.slice (some ⟨tb, tof, none⟩) n tcap)

def SpreadPost (W H : Int) (C : List Int) (l : List Sd) (w : World) (e : Ending) (w' : World) : Prop :=
  if smayB W H C l then ∃ g c D, e = .returned (.tuple #[.slice (some ⟨g, 0, none⟩) C.length c, .int .i64 0]) ∧ w.heap.size ≤ g ∧ Own w' 3 1 (.slice (some ⟨g, 0, none⟩) C.length c) C.length (D.map (Value.int .i64)) ∧ Best W H C l D ∧ Nw w w'
  else e = .returned (.tuple #[.slice none 0 0, .int .i64 1]) ∧ Nw w w'

theorem seeds_ok {W H : Int} {C : List Int} {l : List Sd} (h : smayB W H C l = true) : SeedsOK C l := by
  intro s hs
  simp only [smayB, Bool.and_eq_true, Bool.not_eq_true', List.any_eq_false] at h
  have := h.2 s hs
  simp only [badB, Bool.or_eq_true, decide_eq_true_eq, not_or, beq_iff_eq] at this
  omega

def FinP (s g n : Nat) (W H : Int) (C : List Int) (l : List Sd) (w w' : World) : Prop := w'.cell? ⟨s, 5, none⟩ = some (.slice (some ⟨g, 0, none⟩) n n) ∧ ∃ D, Own w' 3 1 (.slice (some ⟨g, 0, none⟩) n n) n (D.map (Value.int .i64)) ∧ Best W H C l D ∧ Nw w w'

theorem run_q {w wd : World} {s r g tb tof cap qb n : Nat} {W H : Int} {C : List Int} {l l' : List Sd} (t : TileOK W H C) (hn : C.length = n) (hSO : SeedsOK C l) (hs : w.heap.size ≤ s) (hg : w.heap.size ≤ g) (S : SwPost w ⟨s, r, g, tb, tof, cap, qb, n, W, H, C⟩ (fun k => w.heap.size ≤ k) 0 0 ⟨0, fun _ => []⟩ l' (List.replicate C.length inf) wd) (hk : LeK l') (hm : ∀ x, x ∈ l' ↔ x ∈ l) (hl : l'.length ≤ 65536) :
    Calls Try.prog 32 #[.pointer (some ⟨s, 0, none⟩)] wd fun e w' => e = .returned (.tuple #[]) ∧ FinP s g n W H C l w w' := by
  refine (run_any ⟨s, r, g, tb, tof, cap, qb, n, W, H, C⟩ _ l 0 ⟨0, fun _ => []⟩ l' _ w wd t hSO hs hg S (SInv.start hSO hk hm) (by simp; omega)).mono ?_
  rintro e w' ⟨he, at_, tot, z, D, S', hB⟩
  refine ⟨he, ?_, D, ?_, hB, ?_⟩
  · have := S'.c5.2
    rw [hB.len] at this
    subst hn
    exact this
  · obtain ⟨F', ⟨A, cp, S1⟩, _, _⟩ := S'
    have := S1.dist
    rw [hB.len] at this
    subst hn
    exact this
  · obtain ⟨F', _, _, hf⟩ := S'
    exact ⟨hf.os, hf.tape, hf.output, hf.size, fun k hk _ => hf.block k hk (by show ¬ w.heap.size ≤ k; omega)⟩

set_option maxRecDepth 100000 in
set_option maxHeartbeats 4000000 in
theorem spread_any (W H : Int) (A : Option Addr) (C : List Int) (cap : Nat) (As : Option Addr) (l : List Sd) (scap : Nat) (w : World) (h : RdN w .u8 A C) (hl : C.length ≤ 140737488351232) (hb : ∀ b ∈ C, 0 ≤ b ∧ b ≤ 255) (hs : RdS w As l) (hsl : l.length ≤ 65536) :
    Calls Try.prog 10 #[.agg #[.int .i64 W, .int .i64 H, .slice A C.length cap], .slice As l.length scap] w fun e w' => SpreadPost W H C l w e w' := by
  have hN0 : Nw w (w.alloc (.cells #[.int .i64 W, .int .i64 H, .slice A C.length cap] 24)) := Nw.alloc w _
  have HM := Lib.hid (smay_any W H A C cap As l scap _ (h.nw hN0) hl hb (hs.nw hN0) (by omega))
  cases hm : smayB W H C l with
  | false =>
    have HN := Lib.hid hN0
    rw [hm] at HM
    have HP : Hid (∀ w', Nw (w.alloc (.cells #[.int .i64 W, .int .i64 H, .slice A C.length cap] 24)) w' → SpreadPost W H C l w (.returned (.tuple #[.slice none 0 0, .int .i64 1])) w') := fun w' hw => by unfold SpreadPost; rw [hm]; exact ⟨rfl, hN0.trans hw⟩
    clear h hl hb hs hsl hN0 hm HN
    generalize C.length = n at *
    generalize l.length = m at *
    go_enter Try.func10, Try.ntmps10
    go_wp2_with (go_at_call 28; refine (HM.out).mono ?_; rintro e w' ⟨rfl, hw⟩)
    go_ret2
    exact HP.out _ hw
  | true =>
    have hmb : mayB W H C = true := by
      unfold smayB at hm; simp only [Bool.and_eq_true] at hm; exact hm.1
    have t := mayB_ok hb hmb
    have hSO := seeds_ok hm
    rw [hm] at HM
    have hn1 : 1 ≤ C.length := by
      have := t.len; have := Int.mul_pos t.w0 t.h0; omega
    have hn2 := t.le
    obtain ⟨tb, tof, rfl, hC⟩ : ∃ tb tof, A = some ⟨tb, tof, none⟩ ∧ ∀ j b, C[j]? = some b → w.cell? ⟨tb, tof + j, none⟩ = some (.int .u8 b) := by
      cases C with
      | nil => simp at hn1
      | cons x l' => obtain ⟨b, o, ha, hc⟩ := h x l' rfl; exact ⟨b, o, ha, hc⟩
    have htb : tb < w.heap.size := by
      cases C with
      | nil => simp at hn1
      | cons x l' => exact World.block_lt_of_cell? w _ (hC 0 x rfl)
    have HB : Hid (∀ V, Nw (w.alloc (.cells #[.int .i64 W, .int .i64 H, .slice (some ⟨tb, tof, none⟩) C.length cap] 24)) V → Sp3 W H w.heap.size tb tof C.length cap V) := fun V hV => by
      have hr := Row.new w #[.int .i64 W, .int .i64 H, .slice (some ⟨tb, tof, none⟩) C.length cap] 24
      exact ⟨hV.cell (hr.cell 0), hV.cell (hr.cell 1), hV.cell (hr.cell 2)⟩
    have HF : Hid (∀ sb g we, w.heap.size ≤ g → FinP sb g C.length W H C l w we → SpreadPost W H C l w (.returned (.tuple #[.slice (some ⟨g, 0, none⟩) C.length C.length, .int .i64 0])) we) := fun sb g we hg hf => by
      unfold SpreadPost; rw [hm]; obtain ⟨_, D, h1, h2, h3⟩ := hf; exact ⟨g, C.length, D, rfl, hg, h1, h2, h3⟩
    have HS := fun V X hV hX => Lib.hid (sort_q As l scap w hs (by omega) V X hV hX)
    have HNW := fun V X hX => Lib.hid (new_q V X hX)
    have HR := fun xb V X hX hv => Lib.hid (rep_q xb C.length hn1 (by omega) V X hX hv)
    have HN0 := Lib.hid hN0
    have HT := Lib.hid t
    have HSO := Lib.hid hSO
    have HC := Lib.hid hC
    have HTB := Lib.hid htb
    have hn3 : (C.length : Int) ≤ 256 := hn2
    have HN1 := Lib.hid hn1
    clear h hl hb hs hm hmb hSO hC htb t hN0 hn1 hn2
    generalize hn : C.length = n at *
    generalize hT : w.heap.size = T at HB HTB
    have HTT := Lib.hid hT
    go_enter Try.func10, Try.ntmps10
    go_wp2_with (go_at_call 28; refine (HM.out).mono ?_; rintro e w1 ⟨rfl, hw1⟩)
    have hw := HN0.out.trans hw1
    have HB1 : Hid (∀ V, Nw w1 V → Sp3 W H T tb tof n cap V) := fun V hV => HB.out V (hw1.trans hV)
    have HW := Lib.hid hw
    clear HB HN0 HM hw1 hw
    go_region_held3 (fun w' => w'.cell? ⟨T, 0, none⟩ = some (.int .i64 W) ∧ w'.cell? ⟨T, 1, none⟩ = some (.int .i64 H) ∧ w'.cell? ⟨T, 2, none⟩ = some (.slice (some ⟨tb, tof, none⟩) n cap)) (first | exact HB1.out _ (Nw.refl _) | exact HB1.out _ (Fr.drew (Nw.refl _)) | exact HB1.out _ (Nw.trans (Nw.refl _) (Nw.alloc _ _)) | exact HB1.out _ (Fr.drew (Nw.trans (Nw.refl _) (Nw.alloc _ _))) | exact HB1.out _ (k1) | exact HB1.out _ (Fr.drew (k1)) | exact HB1.out _ (Nw.trans (k1) (Nw.alloc _ _)) | exact HB1.out _ (Fr.drew (Nw.trans (k1) (Nw.alloc _ _))) | exact HB1.out _ (Nw.trans k1 k2) | exact HB1.out _ (Fr.drew (Nw.trans k1 k2)) | exact HB1.out _ (Nw.trans (Nw.trans k1 k2) (Nw.alloc _ _)) | exact HB1.out _ (Fr.drew (Nw.trans (Nw.trans k1 k2) (Nw.alloc _ _))) | exact HB1.out _ (Nw.trans (Nw.trans k1 k2) k3) | exact HB1.out _ (Fr.drew (Nw.trans (Nw.trans k1 k2) k3)) | exact HB1.out _ (Nw.trans (Nw.trans (Nw.trans k1 k2) k3) (Nw.alloc _ _)) | exact HB1.out _ (Fr.drew (Nw.trans (Nw.trans (Nw.trans k1 k2) k3) (Nw.alloc _ _)))) ((first | (go_at_call 29; refine ((HNW w1 _ (by first | exact Nw.refl _ | exact Fr.drew (Nw.refl _) | exact Nw.alloc _ _ | exact Fr.drew (Nw.alloc _ _))).out).mono ?_; rintro e wa ⟨⟨r, rfl, r1, r2, r3, k1⟩, x1⟩) | (go_at_call 30; refine ((HS wa _ (HW.out.trans k1) (by first | exact Nw.refl _ | exact Fr.drew (Nw.refl _) | exact Nw.alloc _ _ | exact Fr.drew (Nw.alloc _ _))).out).mono ?_; rintro e wb ⟨⟨A', c, l', rfl, s1, s2, s3, s4, s5, k2, s6⟩, x2⟩) | (go_at_call 31; refine ((HR _ wb _ (by first | exact Nw.refl _ | exact Fr.drew (Nw.refl _) | exact Nw.alloc _ _ | exact Fr.drew (Nw.alloc _ _)) (by first | exact cell_new _ _ _ 0 _ rfl | exact cell_newn _ _ _ 0 _ rfl | exact Nw.cell x2 (cell_newn _ _ _ 0 _ rfl) | exact Nw.cell x2 (Nw.cell x1 (cell_newn _ _ _ 0 _ rfl)) | exact Nw.cell x2 (cell_new _ _ _ 0 _ rfl) | exact Nw.cell x2 (Nw.cell x1 (cell_new _ _ _ 0 _ rfl)))).out).mono ?_; rintro e wc ⟨g, rfl, g1, g2, k3⟩)))
    all_goals
      have hq : ∃ qb, SwPost w ⟨wc.heap.size, r, g, tb, tof, cap, qb, n, W, H, C⟩ (fun k => w.heap.size ≤ k) 0 0 ⟨0, fun _ => []⟩ l' (List.replicate C.length inf) (wc.alloc (.cells #[.int .i64 W, .int .i64 H, .slice (some ⟨tb, tof, none⟩) n cap, .pointer (some ⟨r, 0, none⟩), .slice A' l'.length c, .slice (some ⟨g, 0, none⟩) n n] 71)) := by
        have z1 := HW.out.size
        have z2 := k1.size
        have z3 := k2.size
        have z4 := k3.size
        subst hn
        refine sw_start (HW.out.trans (k1.trans (k2.trans k3))) HC.out (by rw [hT]; exact HTB.out) (by omega) (r3 _ (k2.trans k3)) (by omega) (by omega) (by omega) g2 (s1 _ k3) s5 (fun hne => ?_)
        obtain ⟨b, o, a1, a2, a3⟩ := s6 hne
        exact ⟨b, o, a1, by omega, by omega, by omega, by omega⟩
    all_goals
      obtain ⟨qb, hS⟩ := hq
      have z1 := HW.out.size
      have z2 := k1.size
      have z3 := k2.size
      have z4 := k3.size
      have HX := Lib.hid (run_q HT.out hn HSO.out (by omega) (by omega) hS s2 s3 (by omega))
      have hgT : w.heap.size ≤ g := by omega
      clear HT HSO hS s1 s2 s3 s4 s5 s6 r3 g2 k1 k2 k3 x1 x2 HW HB1 HR HNW HS HC z1 z2 z3 z4
      generalize (wc.alloc (.cells #[.int .i64 W, .int .i64 H, .slice (some ⟨tb, tof, none⟩) n cap, .pointer (some ⟨r, 0, none⟩), .slice A' l'.length c, .slice (some ⟨g, 0, none⟩) n n] 71)) = wd at *
      generalize wc.heap.size = sb at *
      go_wp2_with fail
      refine (HX.out).mono ?_
      rintro e we ⟨rfl, hfin⟩
      have HP := Lib.hid (HF.out sb g we hgT hfin)
      have h5 := hfin.1
      clear hfin HX hgT HF
      go_wp2
      go_ret2
      exact HP.out
end Swp
end Go.Proofs.Ytjnjppikhdfomaa
