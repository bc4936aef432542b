import Derived.Test.YtjnjppikhdfomaaM10
import Derived.Deep.DeepCutAuto
set_option linter.unusedVariables false
set_option linter.unusedSimpArgs false

namespace Go.Proofs.Ytjnjppikhdfomaa
open Go Go.RowKit Go.Proofs B Rng
namespace Stb
open Swp Ref

set_option maxRecDepth 100000 in
set_option maxHeartbeats 1000000 in
theorem stable_0 (cf : Value) (w : World) :
    Calls Try.prog 63 #[.slice none 0 0, .int .i64 0, cf] w fun e w' => e = .returned (.tuple #[]) ∧ w = w' := by
  have HI := fun a w => Lib.hid (ins_0 none 0 0 0 (Int.le_refl _) (by omega) cf w)
  go_enter Try.func63, Try.ntmps63
  go_wp2_with fail
  refine wp_loop_rounds 1 ?_
  rw [rounds_succ]
  go_wp2_with fail
  refine ((ins_0 none 0 0 0 (Int.le_refl _) (by omega) cf w)).mono ?_
  rintro e w' ⟨rfl, rfl⟩
  go_wp2_with fail
  refine wp_loop_rounds 1 ?_
  rw [rounds_succ]
  go_wp2_with fail
  go_end0
  exact ⟨rfl, rfl⟩

theorem sort_0 (cf : Value) (w : World) :
    Calls Try.prog 33 #[.slice none 0 0, cf] w fun e w' => e = .returned (.tuple #[]) ∧ w = w' := by
  go_enter Try.func33, Try.ntmps33
  go_wp2_with (go_at_call 63; refine (stable_0 cf _).mono ?_; rintro e w' ⟨rfl, rfl⟩)
  go_end0
  exact ⟨rfl, rfl⟩

theorem sort_st (W0 w : World) (ob L cap : Nat) (X : List Int) (pb g n c : Nat) (D : List Int) (h : SAt W0 w ob L cap X pb g n c D) (hup : X.Pairwise (· < ·)) (hL : L ≤ 1048576) (hn : n ≤ 1048576) :
    Calls Try.prog 33 #[.slice (some ⟨ob, 0, none⟩) L cap, .func (.func 34) #[] #[.pointer (some ⟨pb, 0, none⟩)]] w fun e w' => e = .returned (.tuple #[]) ∧ StbPost W0 ob L cap pb g n c D X w' := by
  have HC := Lib.hid (stable_any W0 w ob L cap X pb g n c D h hup hL hn)
  generalize StbPost W0 ob L cap pb g n c D X = post at *
  clear h hup
  go_enter Try.func33, Try.ntmps33
  go_wp2_with (go_at_call 63; refine (HC.out).mono ?_; rintro e w' ⟨rfl, hp⟩)
  go_end0
  exact ⟨rfl, hp⟩

/-- What is being collected. -/
structure SetI (w wr : World) (v : Value) (g pb n c : Nat) (D : List Int) (k : Nat) : Prop where
  nw : Nw w wr
  own : Own wr 3 1 v (reachL D k).length ((reachL D k).map (Value.int .i64))
  blk : ∀ b, v.ownBlock = some b → w.heap.size ≤ b ∧ b ≠ g ∧ b ≠ pb
  cp : wr.cell? ⟨pb, 0, none⟩ = some (.slice (some ⟨g, 0, none⟩) n c)
  dist : Own wr 3 1 (.slice (some ⟨g, 0, none⟩) n c) n (D.map (Value.int .i64))
  isnil : reachL D k = [] → v = .slice none 0 0

theorem SetI.cell {w wr : World} {v : Value} {g pb n c : Nat} {D : List Int} {k : Nat} (h : SetI w wr v g pb n c D k) {x : Nat} (hx : x < n) : wr.cell? ⟨g, x, none⟩ = some (.int .i64 (at0 D (x : Int))) := by
  have hl := h.dist.length
  rw [List.length_map, Nat.mul_one] at hl
  refine h.dist.cells (g := g) rfl _ _ ?_
  unfold at0
  rw [List.getElem?_map, Int.toNat_natCast, List.getD_eq_getElem?_getD, List.getElem?_eq_getElem (by omega)]; rfl
theorem SetI.drewN {w wr : World} {v : Value} {g pb n c : Nat} {D : List Int} {k : Nat} (h : SetI w wr v g pb n c D k) (q : Nat) : SetI w (wr.drewN q) v g pb n c D k := ⟨Fr.drewN h.nw q, h.own, h.blk, h.cp, h.dist, h.isnil⟩
theorem SetI.skip {w wr : World} {v : Value} {g pb n c : Nat} {D : List Int} {k : Nat} (h : SetI w wr v g pb n c D k) (e : at0 D (k : Int) = inf) : SetI w wr v g pb n c D (k + 1) := by
  have hr : reachL D (k + 1) = reachL D k := by show (if _ then _ else _) = _; rw [if_pos e]
  exact ⟨h.nw, by rw [hr]; exact h.own, h.blk, h.cp, h.dist, by rw [hr]; exact h.isnil⟩
theorem SetI.next {w wr w' : World} {v v' : Value} {g pb n c : Nat} {D : List Int} {k : Nat} (h : SetI w wr v g pb n c D k) (e : at0 D (k : Int) ≠ inf) (ho : Own w' 3 1 v' ((reachL D k).length + 1) ((reachL D k).map (Value.int .i64) ++ [.int .i64 (k : Int)])) (hg : wr.grownBy w' v.ownBlock) (hb : v'.ownBlock = v.ownBlock ∨ ∃ g, v'.ownBlock = some g ∧ wr.heap.size ≤ g) : SetI w w' v' g pb n c D (k + 1) := by
  have hr : reachL D (k + 1) = reachL D k ++ [(k : Int)] := by show (if _ then _ else _) = _; rw [if_neg e]
  have hpb := World.block_lt_of_cell? wr _ h.cp
  have hgl := h.dist.lt g rfl
  have hf : Fr (fun b => v.ownBlock = some b) wr w' := ⟨hg.os, hg.tape, hg.output, hg.size, fun b hb hn => hg.block b hb (fun e => hn e.symm)⟩
  refine ⟨Fr.grown h.nw hg (fun b hb hlt => by have := (h.blk b hb).1; omega), by rw [hr]; simpa using ho, fun b hb' => ?_, ?_, ?_, fun e => by rw [hr] at e; simp at e⟩
  · rcases hb with hb | ⟨g', hb, hlt⟩
    · rw [hb] at hb'; exact h.blk b hb'
    · rw [hb] at hb'; injection hb' with hb'; subst hb'
      exact ⟨Nat.le_trans h.nw.size hlt, by omega, by simp at hpb; omega⟩
  · exact (hf.cell (p := ⟨pb, 0, none⟩) hpb (fun e => (h.blk pb e).2.2 rfl)).trans h.cp
  · exact h.dist.fr hf (fun b hb e => by injection hb with hb; subst hb; exact (h.blk g e).2.1 rfl)
theorem SetI.sat {w wr : World} {ob cap : Nat} {g pb n c : Nat} {D : List Int} (h : SetI w wr (.slice (some ⟨ob, 0, none⟩) (reachL D n).length cap) g pb n c D n) : SAt w wr ob (reachL D n).length cap (reachL D n) pb g n c D :=
  { nw := h.nw, own := h.own, new := (h.blk ob rfl).1, cp := h.cp, dist := fun x h0 h1 => by
      have := h.cell (x := x.toNat) (by omega)
      rwa [Int.toNat_of_nonneg h0] at this
    ne1 := fun e => (h.blk ob rfl).2.2 e.symm, ne2 := fun e => (h.blk ob rfl).2.1 e.symm, rng := reachL_lt D n }

def SetPost (W H : Int) (C : List Int) (l : List Sd) (w : World) (e : Ending) (w' : World) : Prop :=
  if smayB W H C l then ∃ A c O D, e = .returned (.tuple #[.slice A O.length c, .int .i64 0]) ∧ RdN w' .i64 A O ∧ Best W H C l D ∧ Ord D C.length O ∧ Nw w w'
  else e = .returned (.tuple #[.slice none 0 0, .int .i64 1]) ∧ Nw w w'
end Stb
end Go.Proofs.Ytjnjppikhdfomaa

namespace Go.Proofs.Ytjnjppikhdfomaa
open Go Go.RowKit Go.Proofs B Rng
namespace Stb
open Swp Ref

theorem spread_no (W H : Int) (A : Option Addr) (C : List Int) (cap : Nat) (As : Option Addr) (l : List Sd) (scap : Nat) (w V : World) (hV : Nw w V) (h : RdN w .u8 A C) (hl : C.length ≤ 140737488351232) (hb : ∀ b ∈ C, 0 ≤ b ∧ b ≤ 255) (hs : RdS w As l) (hsl : l.length ≤ 65536) (hm : smayB W H C l = false) :
    Calls Try.prog 10 #[.agg #[.int .i64 W, .int .i64 H, .slice A C.length cap], .slice As l.length scap] V fun e w' => e = .returned (.tuple #[.slice none 0 0, .int .i64 1]) ∧ Nw w w' :=
  (spread_any W H A C cap As l scap V (h.nw hV) hl hb (hs.nw hV) hsl).mono fun e w' h => by
    unfold SpreadPost at h; rw [hm] at h; exact ⟨h.1, hV.trans h.2⟩

def SpOk (W H : Int) (C : List Int) (l : List Sd) (w : World) (n : Nat) (e : Ending) (w' : World) : Prop := ∃ g c D, e = .returned (.tuple #[.slice (some ⟨g, 0, none⟩) n c, .int .i64 0]) ∧ w.heap.size ≤ g ∧ Own w' 3 1 (.slice (some ⟨g, 0, none⟩) n c) n (D.map (Value.int .i64)) ∧ Best W H C l D ∧ Nw w w'
theorem spread_yes (W H : Int) (A : Option Addr) (C : List Int) (cap : Nat) (As : Option Addr) (l : List Sd) (scap : Nat) (w V : World) (hV : Nw w V) (h : RdN w .u8 A C) (hl : C.length ≤ 140737488351232) (hb : ∀ b ∈ C, 0 ≤ b ∧ b ≤ 255) (hs : RdS w As l) (hsl : l.length ≤ 65536) (hm : smayB W H C l = true) :
    Calls Try.prog 10 #[.agg #[.int .i64 W, .int .i64 H, .slice A C.length cap], .slice As l.length scap] V (SpOk W H C l w C.length) :=
  (spread_any W H A C cap As l scap V (h.nw hV) hl hb (hs.nw hV) hsl).mono fun e w' h => by
    unfold SpreadPost at h; rw [hm] at h
    obtain ⟨g, c, D, h1, h2, h3, h4, h5⟩ := h
    exact ⟨g, c, D, h1, Nat.le_trans hV.size h2, h3, h4, hV.trans h5⟩

theorem SetI.start {w w1 : World} {g n c : Nat} {D : List Int} {pb : Nat} (hg : w.heap.size ≤ g) (ho : Own w1 3 1 (.slice (some ⟨g, 0, none⟩) n c) n (D.map (Value.int .i64))) (hn : Nw w w1) (hp : w1.cell? ⟨pb, 0, none⟩ = some (.slice (some ⟨g, 0, none⟩) n c)) : SetI w w1 (.slice none 0 0) g pb n c D 0 :=
  ⟨hn, Own.nil _ _ _, fun b hb => by simp [Value.ownBlock] at hb, hp, ho, fun _ => rfl⟩

set_option maxRecDepth 100000 in
set_option maxHeartbeats 4000000 in
theorem settled_any (W H : Int) (A : Option Addr) (C : List Int) (cap : Nat) (As : Option Addr) (l : List Sd) (scap : Nat) (w : World) (h : RdN w .u8 A C) (hl : C.length ≤ 140737488351232) (hb : ∀ b ∈ C, 0 ≤ b ∧ b ≤ 255) (hs : RdS w As l) (hsl : l.length ≤ 65536) :
    Calls Try.prog 11 #[.agg #[.int .i64 W, .int .i64 H, .slice A C.length cap], .slice As l.length scap] w (SetPost W H C l w) := by
  obtain ⟨i0, hi, hz0, hz1, hz2⟩ := info_parts Try.infoInt
  cases hm : smayB W H C l with
  | false =>
    have HS := fun V (hV : Nw w V) => Lib.hid (spread_no W H A C cap As l scap w V hV h hl hb hs hsl hm)
    have HP : Hid (∀ w', Nw w w' → SetPost W H C l w (.returned (.tuple #[.slice none 0 0, .int .i64 1])) w') := fun w' hw => by unfold SetPost; rw [hm]; exact ⟨rfl, hw⟩
    generalize SetPost W H C l w = post at *
    clear h hl hb hs hsl hm
    generalize C.length = n at *
    generalize l.length = m at *
    go_enter Try.func11, Try.ntmps11
    go_wp2_with (go_at_call 10; refine ((HS _ (Nw.alloc _ _)).out).mono ?_; rintro e w1 ⟨rfl, hw⟩)
    exact HP.out _ (hw.trans (Nw.alloc _ _))
  | true =>
    have HS := fun V (hV : Nw w V) => Lib.hid (spread_yes W H A C cap As l scap w V hV h hl hb hs hsl hm)
    have HP : Hid (∀ w' A c O D, Best W H C l D → Ord D C.length O → RdN w' .i64 A O → Nw w w' → SetPost W H C l w (.returned (.tuple #[.slice A O.length c, .int .i64 0])) w') := fun w' A c O D h1 h2 h3 h4 => by unfold SetPost; rw [hm]; exact ⟨A, c, O, D, rfl, h3, h1, h2, h4⟩
    have hmb : mayB W H C = true := by
      unfold smayB at hm; simp only [Bool.and_eq_true] at hm; exact hm.1
    have t := mayB_ok hb hmb
    have hn2 := t.le
    generalize SetPost W H C l w = post at *
    clear h hb hs hsl hm hmb t hl
    generalize hn : C.length = n at *
    generalize l.length = m at *
    have hn3 : n ≤ 256 := by omega
    go_enter Try.func11, Try.ntmps11
    go_wp2_with (go_at_call 10; refine ((HS _ (Nw.alloc _ _)).out).mono ?_; rintro e w1 ⟨g, c, D, rfl, hg, ho, hB, hw⟩)
    have HB := Lib.hid hB
    have hS0 : SetI w (w1.alloc (.cells #[.slice (some ⟨g, 0, none⟩) n c] 25)) (.slice none 0 0) g w1.heap.size n c D 0 := SetI.start hg (ho.alloc _) (hw.trans (Nw.alloc _ _)) (cell_newn _ _ _ 0 _ rfl)
    have HS0 := Lib.hid hS0
    clear HS ho hB hw hS0
    generalize w1.heap.size = pb at *
    generalize (w1.alloc (.cells #[.slice (some ⟨g, 0, none⟩) n c] 25)) = W1 at *
    go_loopg [8, 22] n (fun gh x8 x22 wr => ∃ (k : Nat), k ≤ n ∧ gh + k = n ∧ x22 = .int .i64 (k : Int) ∧ Hid (SetI w wr x8 g pb n c D k))
    case atStart => exact ⟨0, Nat.zero_le _, by omega, rfl, HS0⟩
    case round =>
      clear HS0
      obtain ⟨k, hk, hgk, rfl, hI⟩ := hrel
      by_cases hlt : k < n
      · have i1 : (k : Int) < n := by omega
        have ck := hI.out.cell hlt
        have hown := hI.out.own
        obtain ⟨A5, c5, rfl, -⟩ := hown.slice
        cases hd : (at0 D (k : Int) != inf) with
        | true =>
          have hne : at0 D (k : Int) ≠ inf := by simpa using hd
          have HNX : Hid (∀ w' v', Own w' 3 1 v' ((reachL D k).length + 1) ((reachL D k).map (Value.int .i64) ++ [.int .i64 (k : Int)]) → wr.grownBy w' (Value.slice A5 (reachL D k).length c5).ownBlock → (v'.ownBlock = (Value.slice A5 (reachL D k).length c5).ownBlock ∨ ∃ g, v'.ownBlock = some g ∧ wr.heap.size ≤ g) → SetI w w' v' g pb n c D (k + 1)) := fun w' v' a1 a2 a3 => hI.out.next hne a1 a2 a3
          have hrl := reachL_len D k
          have hd2 : (at0 D (k : Int) != 1099511627776) = true := hd
          clear hI hne hd
          generalize at0 D (k : Int) = dk at *
          go_wp2_with (at_builtin; refine wpL_append1 rfl (.tmp 29) (.tmp 31) 25 rfl 3 i0 (.int .i64 0) 1 8 Try.underlying25 hi hz0 hz1 hz2 rfl _ (reachL D k).length _ [.int .i64 (k : Int)] rfl hown rfl rfl ?h1 ?h63 ?hb ?_)
          case h1 => intro u hu; simp at hu; subst hu; rfl
          case h63 => unfold maxLen; omega
          case hb => omega
          intro V' w2 hown' hgrow hblk _ _
          have HP1 := Lib.hid (HNX.out _ _ hown' hgrow hblk)
          clear hown' hgrow hblk hown HNX
          go_wp2
          go_roundg (gk - 1)
          case measure => omega
          case rel => exact ⟨k + 1, by omega, by omega, by go_num, HP1⟩
        | false =>
          have hne : at0 D (k : Int) = inf := by simpa using hd
          have HP1 := Lib.hid (hI.out.skip hne)
          have hd2 : (at0 D (k : Int) != 1099511627776) = false := hd
          clear hI hne hd hown
          generalize at0 D (k : Int) = dk at *
          go_wp2
          go_roundg (gk - 1)
          case measure => omega
          case rel => exact ⟨k + 1, by omega, by omega, by go_num, HP1⟩
      · obtain rfl : k = n := by omega
        have i1 : ¬ (k : Int) < k := by omega
        by_cases hr : reachL D k = []
        · obtain rfl := hI.out.isnil hr
          have HF : Hid (post (.returned (.tuple #[.slice none 0 0, .int .i64 0])) wr) := HP.out wr none 0 [] D HB.out ⟨by rw [hr], List.Pairwise.nil⟩ (fun x l e => by simp at e) hI.out.nw
          have HX := fun cf V => Lib.hid (sort_0 cf V)
          clear hI hr HP HB
          go_wp2_with (go_at_call 33; refine ((HX _ _).out).mono ?_; rintro e w' ⟨rfl, rfl⟩)
          exact HF.out
        · have hI2 := hI.out
          obtain ⟨A8, c8, rfl, hA8, -⟩ := hI2.own.slice
          obtain ⟨ob, rfl⟩ := hA8 (by cases h : reachL D k with
            | nil => exact absurd h hr
            | cons x l => simp)
          have hrl := reachL_len D k
          have HX := Lib.hid (sort_st w wr ob (reachL D k).length c8 (reachL D k) pb g k c D hI2.sat (reachL_up D k) (by omega) (by omega))
          have HF : Hid (∀ V, StbPost w ob (reachL D k).length c8 pb g k c D (reachL D k) V → post (.returned (.tuple #[.slice (some ⟨ob, 0, none⟩) (reachL D k).length c8, .int .i64 0])) V) := fun V hV => by
            obtain ⟨Y, h1, h2, h3⟩ := hV
            have hl := h3.len
            obtain ⟨A', c', he, hrd⟩ := rdn_of_own (C := Y) (by rw [hl]; exact h3.own)
            rw [hl] at he
            injection he with e1 e2 e3
            subst e1
            have := HP.out V (some ⟨ob, 0, none⟩) c8 Y D HB.out ⟨h1, h2⟩ hrd h3.nw
            rwa [hl] at this
          clear hI hI2 hr HP HB hrl
          generalize (reachL D k).length = rl at *
          generalize StbPost w ob rl c8 pb g k c D (reachL D k) = sp at *
          go_wp2_with (go_at_call 33; refine (HX.out).mono ?_; rintro e w' ⟨rfl, hsp⟩)
          exact HF.out _ hsp
end Stb
end Go.Proofs.Ytjnjppikhdfomaa

namespace Go.Proofs.Ytjnjppikhdfomaa
open Go Go.RowKit Go.Proofs B Rng
namespace Stb
open Swp Ref

/-- A source that is read: nil, or cells in a row. -/
def RdV (w : World) (A : Option Addr) (m : Nat) (news : List Value) : Prop := (A = none → m = 0 ∧ news = []) ∧ ∀ ad, A = some ad → ∀ j u, news[j]? = some u → w.cell? (ad.add j) = some u

theorem RdV.nil (w : World) (A : Option Addr) : RdV w A 0 [] := ⟨fun _ => ⟨rfl, rfl⟩, fun _ _ j u h => by simp at h⟩
theorem RdV.nw {w w' : World} {A : Option Addr} {m : Nat} {news : List Value} (h : RdV w A m news) (hn : Nw w w') : RdV w' A m news := ⟨h.1, fun ad e j u hu => hn.cell (h.2 ad e j u hu)⟩

theorem run_append_nil_src {P : Program} (w : World) (t ty e : TypeId) (i : TypeInfo) (size : Nat) (ht : P.underlying t = some (.slice e)) (hi : P.info? e = some i)
    (v : Value) (n : Nat) (xs : List Value) (hown : Own w e size v n xs) (c : Nat) : (Builtin.append_ #[t, t] ty #[v, .slice none 0 c]).run P w = .ok v w := by
  rcases hown.2 with ⟨rfl, rfl⟩ | ⟨g, cap, cur, rfl, _, _, hnc, _⟩
  · simp [Builtin.append_, run_underlying ht, sizeOf, typeInfo, hi, Builtin.lenOf, Builtin.firstCells]
  · simp [Builtin.append_, run_underlying ht, sizeOf, typeInfo, hi, Builtin.lenOf, Builtin.firstCells, hnc, storeCells]

theorem run_append_rd {P : Program} (w : World) (t ty e : TypeId) (i : TypeInfo) (z : Value) (size bytes : Nat) (ht : P.underlying t = some (.slice e)) (hi : P.info? e = some i) (hz : i.zero = some z)
    (hsize : i.size = size) (hby : i.bytes = bytes) (hzs : z.cells.size = size)
    (v : Value) (n : Nat) (xs : List Value) (hown : Own w e size v n xs)
    (A : Option Addr) (m c : Nat) (news : List Value) (hl : news.length = m * size) (hnews : RdV w A m news) (h1 : ∀ u ∈ news, u.oneCell' = true)
    (h63 : n + m ≤ maxLen) (hbytes : (n + m) * bytes ≤ 140737488355328) :
    ∃ v' w', (Builtin.append_ #[t, t] ty #[v, .slice A m c]).run P w = .ok v' w' ∧ Own w' e size v' (n + m) (xs ++ news) ∧ w.grownBy w' v.ownBlock ∧
      (v'.ownBlock = v.ownBlock ∨ v'.ownBlock = some w.heap.size) := by
  cases A with
  | none =>
    obtain ⟨rfl, rfl⟩ := hnews.1 rfl
    exact ⟨v, w, run_append_nil_src w t ty e i size ht hi v n xs hown c, by simpa using hown, ⟨rfl, rfl, rfl, Nat.le_refl _, fun _ _ _ => rfl⟩, .inl rfl⟩
  | some ad =>
    obtain ⟨v', w', a1, a2, a3, a4, _, _⟩ := run_append (P := P) w t ty e i z size bytes ht hi hz hsize hby hzs v n xs hown ad m c news hl (hnews.2 ad rfl) h1 h63 hbytes
    exact ⟨v', w', a1, a2, a3, a4⟩

theorem wp_append_rd {P : Program} {w : World} {o : Oper} {a : Act} {K : Act → World → Prop} {Q : Exit → Act → World → Prop} (s x : Operand) (t : TypeId)
    (ho : o.op = .call { callee := .builtin .append, args := #[s, x], argTypes := #[t, t] })
    (e : TypeId) (i : TypeInfo) (z : Value) (size bytes : Nat) (ht : P.underlying t = some (.slice e)) (hi : P.info? e = some i) (hz : i.zero = some z)
    (hsize : i.size = size) (hby : i.bytes = bytes) (hzs : z.cells.size = size)
    (v : Value) (n : Nat) (xs : List Value) (hs : a.eval s = v) (hown : Own w e size v n xs)
    (A : Option Addr) (m c : Nat) (news : List Value) (hx : a.eval x = .slice A m c) (hl : news.length = m * size) (hnews : RdV w A m news) (h1 : ∀ u ∈ news, u.oneCell' = true)
    (h63 : n + m ≤ maxLen) (hbytes : (n + m) * bytes ≤ 140737488355328)
    (h : ∀ v' w', Own w' e size v' (n + m) (xs ++ news) → w.grownBy w' v.ownBlock → (v'.ownBlock = v.ownBlock ∨ v'.ownBlock = some w.heap.size) → K (a.put o.dst v') w') : o.wp P a w K Q := by
  obtain ⟨v', w', hr, h2, h3, h4⟩ := run_append_rd (P := P) w t o.type e i z size bytes ht hi hz hsize hby hzs v n xs hown A m c news hl hnews h1 h63 hbytes
  unfold Oper.wp execOp
  simp only [ho, resolve, invoke, builtin, Sem.run_bind, Sem.run_pure, Result.andThen_ok, List.map_toArray, List.map_cons, List.map_nil, hs, hx, hr]
  exact h v' w' h2 h3 h4

theorem wpL_append_rd {P : Program} {w : World} {ops : Array Oper} {rest : List Oper} {o : Oper} {a : Act} {Q : Exit → Act → World → Prop} (hgd : o.guard = none) (s x : Operand) (t : TypeId)
    (ho : o.op = .call { callee := .builtin .append, args := #[s, x], argTypes := #[t, t] })
    (e : TypeId) (i : TypeInfo) (z : Value) (size bytes : Nat) (ht : P.underlying t = some (.slice e)) (hi : P.info? e = some i) (hz : i.zero = some z)
    (hsize : i.size = size) (hby : i.bytes = bytes) (hzs : z.cells.size = size)
    (v : Value) (n : Nat) (xs : List Value) (hs : a.eval s = v) (hown : Own w e size v n xs)
    (A : Option Addr) (m c : Nat) (news : List Value) (hx : a.eval x = .slice A m c) (hl : news.length = m * size) (hnews : RdV w A m news) (h1 : ∀ u ∈ news, u.oneCell' = true)
    (h63 : n + m ≤ maxLen) (hbytes : (n + m) * bytes ≤ 140737488355328)
    (h : ∀ v' w', Own w' e size v' (n + m) (xs ++ news) → w.grownBy w' v.ownBlock → (v'.ownBlock = v.ownBlock ∨ v'.ownBlock = some w.heap.size) → wpList P ops Q rest (a.put o.dst v') w') : wpList P ops Q (o :: rest) a w :=
  wpList_plain hgd fun _ hK => wp_append_rd s x t ho e i z size bytes ht hi hz hsize hby hzs v n xs hs hown A m c news hx hl hnews h1 h63 hbytes fun v' w' a1 a2 a3 => hK _ _ (h v' w' a1 a2 a3)

theorem step_append_rd {P : Program} {ops : Array Oper} {w : World} {o : Oper} {a : Act} {K : Act → World → Prop} {Q : Exit → Act → World → Prop} {E : Prop} (hgd : o.guard = none) (s x : Operand) (t : TypeId)
    (ho : o.op = .call { callee := .builtin .append, args := #[s, x], argTypes := #[t, t] })
    (e : TypeId) (i : TypeInfo) (z : Value) (size bytes : Nat) (ht : P.underlying t = some (.slice e)) (hi : P.info? e = some i) (hz : i.zero = some z)
    (hsize : i.size = size) (hby : i.bytes = bytes) (hzs : z.cells.size = size)
    (v : Value) (n : Nat) (xs : List Value) (hs : a.eval s = v) (hown : Own w e size v n xs)
    (A : Option Addr) (m c : Nat) (news : List Value) (hx : a.eval x = .slice A m c) (hl : news.length = m * size) (hnews : RdV w A m news) (h1 : ∀ u ∈ news, u.oneCell' = true)
    (h63 : n + m ≤ maxLen) (hbytes : (n + m) * bytes ≤ 140737488355328)
    (h : ∀ v' w', Own w' e size v' (n + m) (xs ++ news) → w.grownBy w' v.ownBlock → (v'.ownBlock = v.ownBlock ∨ v'.ownBlock = some w.heap.size) → K (a.put o.dst v') w') : if Region.wanted o (yielded ops a.tmps) = true then Oper.wp P o a w K Q else E := by
  have hw : Region.wanted o (yielded ops a.tmps) = true := by simp [Region.wanted, hgd]
  rw [if_pos hw]
  exact wp_append_rd s x t ho e i z size bytes ht hi hz hsize hby hzs v n xs hs hown A m c news hx hl hnews h1 h63 hbytes h
end Stb
end Go.Proofs.Ytjnjppikhdfomaa

namespace Go.Proofs.Ytjnjppikhdfomaa
open Go Go.RowKit Go.Proofs B Rng
namespace Stb
open Swp Ref

/-- A tile in a box of the law's own, and seeds. -/
structure CoreAt (w V : World) (T : Nat) (W H : Int) (A : Option Addr) (C : List Int) (cap : Nat) (As : Option Addr) (l : List Sd) : Prop where
  nw : Nw w V
  row : Row V T 24 #[.int .i64 W, .int .i64 H, .slice A C.length cap]
  new : w.heap.size ≤ T
  rd : RdN V .u8 A C
  rs : RdS V As l
  byt : ∀ b ∈ C, 0 ≤ b ∧ b ≤ 255
  lc : C.length ≤ 1048576
  ll : l.length ≤ 65536

theorem CoreAt.box {w V : World} {T : Nat} {W H : Int} {A : Option Addr} {C : List Int} {cap : Nat} {As : Option Addr} {l : List Sd} (h : CoreAt w V T W H A C cap As l) : TBox V T W H A C cap := ⟨h.row.cell 0, h.row.cell 1, h.row.cell 2, h.rd⟩

theorem set_no (W H : Int) (A : Option Addr) (C : List Int) (cap : Nat) (As : Option Addr) (l : List Sd) (scap : Nat) (w V : World) (hV : Nw w V) (h : RdN w .u8 A C) (hl : C.length ≤ 140737488351232) (hb : ∀ b ∈ C, 0 ≤ b ∧ b ≤ 255) (hs : RdS w As l) (hsl : l.length ≤ 65536) (hm : smayB W H C l = false) :
    Calls Try.prog 11 #[.agg #[.int .i64 W, .int .i64 H, .slice A C.length cap], .slice As l.length scap] V fun e w' => e = .returned (.tuple #[.slice none 0 0, .int .i64 1]) ∧ Nw w w' :=
  (settled_any W H A C cap As l scap V (h.nw hV) hl hb (hs.nw hV) hsl).mono fun e w' h => by
    unfold SetPost at h; rw [hm] at h; exact ⟨h.1, hV.trans h.2⟩
def SeOk (W H : Int) (C : List Int) (l : List Sd) (w : World) (n : Nat) (e : Ending) (w' : World) : Prop := ∃ A c O D, e = .returned (.tuple #[.slice A O.length c, .int .i64 0]) ∧ (∀ V, Nw w' V → RdN V .i64 A O) ∧ Best W H C l D ∧ Ord D n O ∧ Nw w w'
theorem set_yes (W H : Int) (A : Option Addr) (C : List Int) (cap : Nat) (As : Option Addr) (l : List Sd) (scap : Nat) (w V : World) (hV : Nw w V) (h : RdN w .u8 A C) (hl : C.length ≤ 140737488351232) (hb : ∀ b ∈ C, 0 ≤ b ∧ b ≤ 255) (hs : RdS w As l) (hsl : l.length ≤ 65536) (hm : smayB W H C l = true) :
    Calls Try.prog 11 #[.agg #[.int .i64 W, .int .i64 H, .slice A C.length cap], .slice As l.length scap] V (SeOk W H C l w C.length) :=
  (settled_any W H A C cap As l scap V (h.nw hV) hl hb (hs.nw hV) hsl).mono fun e w' h => by
    unfold SetPost at h; rw [hm] at h
    obtain ⟨A', c, O, D, h1, h2, h3, h4, h5⟩ := h
    exact ⟨A', c, O, D, h1, fun V hV => h2.nw hV, h3, h4, hV.trans h5⟩
theorem ms_at (W H : Int) (A : Option Addr) (C : List Int) (cap : Nat) (As : Option Addr) (l : List Sd) (scap : Nat) (w V : World) (hV : Nw w V) (h : RdN w .u8 A C) (hl : C.length ≤ 140737488351232) (hb : ∀ b ∈ C, 0 ≤ b ∧ b ≤ 255) (hs : RdS w As l) (hsl : l.length ≤ 65536) (b : Bool) (hm : smayB W H C l = b) :
    Calls Try.prog 12 #[.agg #[.int .i64 W, .int .i64 H, .slice A C.length cap], .slice As l.length scap] V fun e w' => e = .returned (.bool b) ∧ Nw w w' :=
  (maySeeds_any W H A C cap As l scap V (h.nw hV) hl hb (hs.nw hV) hsl).mono fun e w' h => by
    unfold BoolN at h; rw [hm] at h; exact ⟨h.1, hV.trans h.2⟩
def RfOk (W H : Int) (C : List Int) (l : List Sd) (w : World) (n : Nat) (e : Ending) (w' : World) : Prop := ∃ g c D, e = .returned (.slice (some ⟨g, 0, none⟩) n c) ∧ (∀ V, Nw w' V → RdN V .i64 (some ⟨g, 0, none⟩) D) ∧ Best W H C l D ∧ Nw w w'
theorem rdn_own_at {w : World} {g n c : Nat} {D : List Int} (hn : D.length = n) (h : Own w 3 1 (.slice (some ⟨g, 0, none⟩) n c) n (D.map (Value.int .i64))) : ∀ V, Nw w V → RdN V .i64 (some ⟨g, 0, none⟩) D := fun V hV => by
  subst hn
  obtain ⟨A, c', he, hr⟩ := rdn_of_own h
  injection he with e1 e2 e3
  subst e1
  exact hr.nw hV
theorem ref_at (W H : Int) (A : Option Addr) (C : List Int) (cap : Nat) (As : Option Addr) (l : List Sd) (scap : Nat) (w V : World) (hV : Nw w V) (h : RdN w .u8 A C) (hb : ∀ b ∈ C, 0 ≤ b ∧ b ≤ 255) (hs : RdS w As l) (hsl : l.length ≤ 65536) (hm : smayB W H C l = true) :
    Calls Try.prog 13 #[.agg #[.int .i64 W, .int .i64 H, .slice A C.length cap], .slice As l.length scap] V (RfOk W H C l w C.length) := by
  have hmb : mayB W H C = true := by
    unfold smayB at hm; simp only [Bool.and_eq_true] at hm; exact hm.1
  refine (refSpread_any W H A C cap As l scap V (h.nw hV) (mayB_ok hb hmb) (hs.nw hV) (seeds_ok hm) hsl).mono fun e w' h => ?_
  obtain ⟨g, c, D, h1, h2, h3, h4⟩ := h
  exact ⟨g, c, D, h1, rdn_own_at h3.len h2, h3, hV.trans h4⟩
theorem ints_at (A B : Option Addr) (a b : List Int) (ca cb : Nat) (w V : World) (hV : Nw w V) (ha : RdN V .i64 A a) (hb : RdN V .i64 B b) (hla : a.length ≤ 140737488351232) (hab : a = b) :
    Calls Try.prog 14 #[.slice A a.length ca, .slice B b.length cb] V fun e w' => e = .returned (.bool true) ∧ Nw w w' := by
  subst hab
  exact (ints_any A B a a ca cb V ha hb hla hla).mono fun e w' h => by
    rw [decide_eq_true rfl] at h; exact ⟨h.1, hV.trans h.2⟩
theorem told_at (w V : World) (hV : Nw w V) : Calls Try.prog 5 #[] V fun e w' => e = .returned (.bool true) ∧ Nw w w' :=
  (told_any V).mono fun e w' h => ⟨h.1, hV.trans h.2⟩

/-- Numbers of the program's own making. -/
def OwnN (w V : World) (v : Value) (xs : List Int) : Prop := Nw w V ∧ Own V 3 1 v xs.length (xs.map (Value.int .i64)) ∧ ∀ b, v.ownBlock = some b → w.heap.size ≤ b
theorem OwnN.alloc {w V : World} {v : Value} {xs : List Int} (h : OwnN w V v xs) (o : Obj) : OwnN w (V.alloc o) v xs := ⟨h.1.trans (Nw.alloc _ _), h.2.1.alloc o, h.2.2⟩
theorem OwnN.drewN {w V : World} {v : Value} {xs : List Int} (h : OwnN w V v xs) (q : Nat) : OwnN w (V.drewN q) v xs := ⟨Fr.drewN h.1 q, h.2.1, h.2.2⟩
theorem OwnN.drew {w V : World} {v : Value} {xs : List Int} (h : OwnN w V v xs) : OwnN w V.drew v xs := ⟨Fr.drew h.1, h.2.1, h.2.2⟩
theorem OwnN.nil (w : World) : OwnN w w (.slice none 0 0) [] := ⟨Nw.refl w, Own.nil _ _ _, fun b hb => by simp [Value.ownBlock] at hb⟩
theorem OwnN.new {w V : World} (h : Nw w V) : OwnN w (V.alloc (.cells #[] 3)) (.slice (some ⟨V.heap.size, 0, none⟩) 0 0) [] :=
  ⟨h.trans (Nw.alloc _ _), ⟨rfl, .inr ⟨V.heap.size, 0, #[], rfl, Nat.zero_le _, Row.new V _ _, Nat.le_refl _, Nat.zero_le _, rfl, rfl⟩⟩, fun b hb => by
    simp [Value.ownBlock] at hb; subst hb; exact h.size⟩
theorem OwnN.rd {w V : World} {v : Value} {xs : List Int} (h : OwnN w V v xs) : ∃ A c, v = .slice A xs.length c ∧ RdN V .i64 A xs := rdn_of_own h.2.1

/-- append of numbers onto numbers of one's own, as one step of a region that draws. -/
theorem step_ints {ops : Array Oper} {w V : World} {o : Oper} {a : Act} {K : Act → World → Prop} {Q : Exit → Act → World → Prop} {E : Prop} (hgd : o.guard = none) (s x : Operand)
    (ho : o.op = .call { callee := .builtin .append, args := #[s, x], argTypes := #[25, 25] })
    {v : Value} {xs : List Int} (hown : OwnN w V v xs) {A : Option Addr} {m c : Nat} {ys : List Int} (hnews : Nw w V → RdV V A m (ys.map (Value.int .i64))) (hs : a.eval s = v)
    (hx : a.eval x = .slice A m c) (hl : ys.length = m)
    (hb : xs.length + ys.length ≤ 1048576)
    (h : ∀ v' w', OwnN w w' v' (xs ++ ys) → V.grownBy w' v.ownBlock → K (a.put o.dst v') w') : if Region.wanted o (yielded ops a.tmps) = true then Oper.wp Try.prog o a V K Q else E := by
  obtain ⟨i0, hi, hz0, hz1, hz2⟩ := info_parts Try.infoInt
  refine step_append_rd hgd s x 25 ho 3 i0 (.int .i64 0) 1 8 Try.underlying25 hi hz0 hz1 hz2 rfl v xs.length (xs.map (Value.int .i64)) hs hown.2.1 A m c (ys.map (Value.int .i64)) hx (by simp [hl]) (hnews hown.1) (fun u hu => by
    obtain ⟨y, _, rfl⟩ := List.mem_map.1 hu; rfl) (by unfold maxLen; omega) (by omega) fun v' w' h1 h2 h3 => h v' w' ⟨?_, ?_, ?_⟩ h2
  · exact Fr.grown hown.1 h2 (fun k hk hlt => by have := hown.2.2 k hk; omega)
  · rw [List.map_append, List.length_append, hl]; exact h1
  · intro b hb
    rcases h3 with h3 | h3
    · rw [h3] at hb; exact hown.2.2 b hb
    · rw [h3] at hb; injection hb with hb; subst hb; exact hown.1.size

theorem OwnN.base {w0 w V : World} {v : Value} {xs : List Int} (h : OwnN w V v xs) (hn : Nw w0 w) : OwnN w0 V v xs := ⟨hn.trans h.1, h.2.1, fun b hb => Nat.le_trans hn.size (h.2.2 b hb)⟩
theorem grown_cell {V x1 : World} {row : Option Nat} (h : V.grownBy x1 row) {a : Addr} {v : Value} (hc : V.cell? a = some v) (hne : some a.block ≠ row) : x1.cell? a = some v :=
  (World.cell?_of_block (w := V) (h.block a.block (World.block_lt_of_cell? V a hc) hne)).trans hc
theorem rdv_one {V : World} {b : Nat} {x : Int} (h : V.cell? ⟨b, 0, none⟩ = some (.int .i64 x)) : RdV V (some ⟨b, 0, none⟩) 1 ([x].map (Value.int .i64)) := ⟨fun e => by simp at e, fun ad e => by
  injection e with e; subst e; exact news_one h⟩
theorem rdv_cut {V : World} {ob off : Nat} {O ys : List Int} (h : RdN V .i64 (some ⟨ob, 0, none⟩) O) (hy : ∀ j y, ys[j]? = some y → O[off + j]? = some y) (m : Nat) : RdV V (some ⟨ob, off, none⟩) m (ys.map (Value.int .i64)) := by
  refine ⟨fun e => by simp at e, fun ad e j u hu => ?_⟩
  injection e with e
  subst e
  rw [List.getElem?_map] at hu
  cases hj : ys[j]? with
  | none => rw [hj] at hu; simp at hu
  | some y =>
    rw [hj] at hu; simp at hu; subst hu
    have hO := hy j y hj
    cases O with
    | nil => simp at hO
    | cons x l =>
      obtain ⟨b, o, ha, hc⟩ := h x l rfl
      injection ha with ha; injection ha with e1 e2
      subst e1; subst e2
      have hadd : (⟨ob, off, none⟩ : Addr).add j = ⟨ob, off + j, none⟩ := by unfold Addr.add; split <;> simp_all
      rw [hadd]
      have := hc _ y hO
      rwa [Nat.zero_add] at this

/-- The order so far. -/
structure OrdAt (w V : World) (v : Value) (D : List Int) (k : Nat) (O : List Int) : Prop where
  own : OwnN w V v O
  ord : Ord D k O
  isnil : O = [] → v = .slice none 0 0
theorem OrdAt.drewN {w V : World} {v : Value} {D : List Int} {k : Nat} {O : List Int} (h : OrdAt w V v D k O) (q : Nat) : OrdAt w (V.drewN q) v D k O := ⟨h.own.drewN q, h.ord, h.isnil⟩
end Stb
end Go.Proofs.Ytjnjppikhdfomaa
