import Derived.Test.YtjnjppikhdfomaaM5
import Derived.StillTailTactics
set_option linter.unusedVariables false
set_option linter.unusedSimpArgs false

namespace Go.Proofs.Ytjnjppikhdfomaa
open Go Go.RowKit Go.Proofs B Rng
namespace Ref
open Swp

/-- The distances, as they lie. -/
structure DAt (W0 w : World) (g n cp : Nat) (D : List Int) : Prop where
  nw : Nw W0 w
  own : Own w 3 1 (.slice (some ⟨g, 0, none⟩) n cp) n (D.map (Value.int .i64))
  new : W0.heap.size ≤ g

theorem DAt.drewN {W0 w : World} {g n cp : Nat} {D : List Int} (h : DAt W0 w g n cp D) (q : Nat) : DAt W0 (w.drewN q) g n cp D := ⟨Fr.drewN h.nw q, h.own, h.new⟩
theorem DAt.len {W0 w : World} {g n cp : Nat} {D : List Int} (h : DAt W0 w g n cp D) : D.length = n := by
  have := h.own.length; simpa using this
theorem DAt.set {W0 w : World} {g n cp : Nat} {D : List Int} (h : DAt W0 w g n cp D) (j : Nat) (v : Int) : DAt W0 (w.setCell ⟨g, j, none⟩ (.int .i64 v)) g n cp (D.set j v) :=
  ⟨Fr.setCell h.nw (p := ⟨g, j, none⟩) (fun hlt => by have := h.new; simp at hlt; omega) _, by rw [List.map_set]; exact h.own.set j _, h.new⟩
theorem DAt.cell {W0 w : World} {g n cp : Nat} {D : List Int} (h : DAt W0 w g n cp D) (c : Int) (h0 : 0 ≤ c) (h1 : c < n) : w.cell? ⟨g, c.toNat, none⟩ = some (.int .i64 (at0 D c)) ∧ w.frozen? ⟨g, c.toNat, none⟩ = false :=
  ⟨h.own.cells (g := g) rfl _ _ (by rw [List.getElem?_map, getD_some 0 (show c.toNat < D.length by have := h.len; omega)]; rfl), h.own.free (g := g) rfl _⟩

/-- What holds between the steps: no distance is too small; each is one. -/
structure Low (W H : Int) (C : List Int) (l : List Sd) (D : List Int) : Prop where
  len : D.length = C.length
  rng : ∀ c : Int, 0 ≤ c → c < C.length → 0 ≤ at0 D c ∧ at0 D c ≤ inf
  low : ∀ E, Stable W H C l E → ∀ c : Int, 0 ≤ c → c < C.length → E c ≤ at0 D c

theorem at0_set (D : List Int) (j c v : Int) (hj : 0 ≤ j) (hj1 : j < D.length) (hc : 0 ≤ c) : at0 (D.set j.toNat v) c = if c = j then v else at0 D c := by
  unfold at0
  rw [List.getD_eq_getElem?_getD, List.getD_eq_getElem?_getD]
  by_cases e : c = j
  · subst e; rw [if_pos rfl, List.getElem?_set_self (by omega)]; rfl
  · rw [if_neg e, List.getElem?_set_ne (by omega)]

def SeedK (l : List Sd) (k : Nat) (D : List Int) : Prop := ∀ j s, j < k → l[j]? = some s → at0 D s.cell ≤ s.key

theorem Low.start (W H : Int) (C : List Int) (l : List Sd) : Low W H C l (List.replicate C.length inf) :=
  ⟨by simp, fun c h0 h1 => by rw [at0_rep _ c h0 h1]; unfold inf; omega, fun E hE c h0 h1 => by rw [at0_rep _ c h0 h1]; exact hE.top c h0 h1⟩

theorem Low.seed {W H : Int} {C : List Int} {l : List Sd} {D : List Int} (h : Low W H C l D) (hS : SeedsOK C l) {k : Nat} (hk : SeedK l k D) {s : Sd} (hs : l[k]? = some s) : Low W H C l (D.set s.cell.toNat (min (at0 D s.cell) s.key)) ∧ SeedK l (k + 1) (D.set s.cell.toNat (min (at0 D s.cell) s.key)) := by
  have hm := List.mem_of_getElem? hs
  obtain ⟨s0, s1, s2, s3, s4⟩ := hS s hm
  have hl := h.len
  refine ⟨⟨by rw [List.length_set]; exact hl, fun c h0 h1 => ?_, fun E hE c h0 h1 => ?_⟩, fun j x hj hx => ?_⟩
  · rw [at0_set D _ _ _ s0 (by omega) h0]
    split
    · have := h.rng s.cell s0 s1; unfold inf at *; omega
    · exact h.rng c h0 h1
  · rw [at0_set D _ _ _ s0 (by omega) h0]
    split
    · rename_i e; subst e
      have a := h.low E hE s.cell s0 s1
      have b := hE.seed s hm
      omega
    · exact h.low E hE c h0 h1
  · obtain ⟨x0, x1, _⟩ := hS x (List.mem_of_getElem? hx)
    rw [at0_set D _ _ _ s0 (by omega) x0]
    by_cases ej : j = k
    · subst ej; rw [hs] at hx; injection hx with hx; subst hx
      rw [if_pos rfl]; omega
    · have := hk j x (by omega) hx
      split
      · rename_i e; rw [e] at this; omega
      · exact this

def sumD (D : List Int) : Nat := (D.map Int.toNat).sum
theorem sumD_set (D : List Int) (j : Nat) (v : Int) (hj : j < D.length) (hv : v.toNat < (D.getD j 0).toNat) : sumD (D.set j v) < sumD D := by
  unfold sumD
  induction D generalizing j with
  | nil => simp at hj
  | cons x D ih =>
    cases j with
    | zero => simp at hv ⊢; omega
    | succ j =>
      have := ih j (by simpa using hj) (by simpa using hv)
      simp at this ⊢; omega

theorem rep_uniq {W x y x' y' : Int} (h0 : 0 ≤ x) (h1 : x < W) (h2 : 0 ≤ x') (h3 : x' < W) : y * W + x = y' * W + x' ↔ y = y' ∧ x = x' := by
  constructor
  · intro h
    have a : (y * W + x) / W = y := by rw [Int.add_comm, Int.add_mul_ediv_right _ _ (by omega), Int.ediv_eq_zero_of_lt h0 h1]; omega
    have b : (y' * W + x') / W = y' := by rw [Int.add_comm, Int.add_mul_ediv_right _ _ (by omega), Int.ediv_eq_zero_of_lt h2 h3]; omega
    have e : y = y' := by rw [← a, ← b, h]
    subst e
    exact ⟨rfl, by omega⟩
  · rintro ⟨rfl, rfl⟩; rfl

/-- Beside, by the document's words. -/
theorem nb_step {W H : Int} {C : List Int} (t : TileOK W H C) {c m : Int} (c0 : 0 ≤ c) (c1 : c < C.length) (m0 : 0 ≤ m) (m1 : m < C.length) : (∃ side : Int, 0 ≤ side ∧ side ≤ 3 ∧ stepM W H c side = m) ↔ c ∈ nb W H m := by
  have hlen := t.len
  have a := t.w0; have b := t.w1; have cc := t.h0; have d := t.h1
  have x0 := Int.emod_nonneg c (show W ≠ 0 by omega)
  have x1 := Int.emod_lt_of_pos c (show 0 < W by omega)
  have y0 := Int.ediv_nonneg c0 (show 0 ≤ W by omega)
  have y1 : c / W < H := Int.ediv_lt_of_lt_mul (by omega) (by rw [Int.mul_comm, ← hlen]; exact c1)
  have u0 := Int.emod_nonneg m (show W ≠ 0 by omega)
  have u1 := Int.emod_lt_of_pos m (show 0 < W by omega)
  have v0 := Int.ediv_nonneg m0 (show 0 ≤ W by omega)
  have v1 : m / W < H := Int.ediv_lt_of_lt_mul (by omega) (by rw [Int.mul_comm, ← hlen]; exact m1)
  have hc : c / W * W + c % W = c := by have := Int.mul_ediv_add_emod c W; rw [Int.mul_comm] at this; exact this
  have hm : m / W * W + m % W = m := by have := Int.mul_ediv_add_emod m W; rw [Int.mul_comm] at this; exact this
  have hcell : isCellB W H c = true := by
    unfold isCellB mayMB inB
    simp only [Bool.and_eq_true, decide_eq_true_eq]
    omega
  have hst : ∀ side : Int, 0 ≤ side → side ≤ 3 → stepM W H c side = stepXY W H (if side = 1 then c % W + 1 else if side = 3 then c % W - 1 else c % W) (if side = 0 then c / W - 1 else if side = 2 then c / W + 1 else c / W) := fun side s0 s1 => by
    unfold stepM; rw [hcell, Bool.true_and, if_pos (by unfold inB; simp only [Bool.and_eq_true, decide_eq_true_eq]; omega)]
  have hxy : ∀ x y : Int, stepXY W H x y = m ↔ (0 ≤ x ∧ x ≤ W - 1 ∧ 0 ≤ y ∧ y ≤ H - 1) ∧ y = m / W ∧ x = m % W := by
    intro x y
    unfold stepXY inB
    by_cases h : 0 ≤ x ∧ x ≤ W - 1 ∧ 0 ≤ y ∧ y ≤ H - 1
    · rw [if_pos (by simp only [Bool.and_eq_true, decide_eq_true_eq]; omega)]
      have := rep_uniq (W := W) (y := y) (y' := m / W) h.1 (by omega) u0 u1
      rw [hm] at this
      rw [this]
      exact ⟨fun h' => ⟨h, h'⟩, fun h' => h'.2⟩
    · rw [if_neg (by simp only [Bool.and_eq_true, decide_eq_true_eq]; omega)]
      exact ⟨fun h' => by omega, fun h' => absurd h'.1 h⟩
  have hnb : ∀ k : Int, (c = m + k ↔ c / W * W + c % W = m / W * W + m % W + k) := fun k => by rw [hc, hm]
  have e1 : c = m - W ↔ c / W = m / W - 1 ∧ c % W = m % W := by
    rw [← rep_uniq x0 x1 u0 u1, Int.sub_mul, hc]; omega
  have e3 : c = m + W ↔ c / W = m / W + 1 ∧ c % W = m % W := by
    rw [← rep_uniq x0 x1 u0 u1, Int.add_mul, hc]; omega
  have e2 : m % W < W - 1 → (c = m + 1 ↔ c / W = m / W ∧ c % W = m % W + 1) := fun h => by
    rw [← rep_uniq x0 x1 (show 0 ≤ m % W + 1 by omega) (by omega), hc]; omega
  have e4 : 0 < m % W → (c = m - 1 ↔ c / W = m / W ∧ c % W = m % W - 1) := fun h => by
    rw [← rep_uniq x0 x1 (show 0 ≤ m % W - 1 by omega) (by omega), hc]; omega
  have hmem : c ∈ nb W H m ↔ (0 < m / W ∧ c = m - W) ∨ (m % W < W - 1 ∧ c = m + 1) ∨ (m / W < H - 1 ∧ c = m + W) ∨ (0 < m % W ∧ c = m - 1) := by
    unfold nb
    simp only [List.mem_append]
    by_cases h1 : 0 < m / W <;> by_cases h2 : m % W < W - 1 <;> by_cases h3 : m / W < H - 1 <;> by_cases h4 : 0 < m % W <;> simp [h1, h2, h3, h4]
  rw [hmem]
  constructor
  · rintro ⟨side, s0, s1, hs⟩
    rw [hst side s0 s1, hxy] at hs
    obtain rfl | rfl | rfl | rfl : side = 0 ∨ side = 1 ∨ side = 2 ∨ side = 3 := by omega
    · simp at hs
      exact .inr (.inr (.inl ⟨by omega, e3.2 (by omega)⟩))
    · simp at hs
      exact .inr (.inr (.inr ⟨by omega, (e4 (by omega)).2 (by omega)⟩))
    · simp at hs
      exact .inl ⟨by omega, e1.2 (by omega)⟩
    · simp at hs
      exact .inr (.inl ⟨by omega, (e2 (by omega)).2 (by omega)⟩)
  · rintro (⟨h, e⟩ | ⟨h, e⟩ | ⟨h, e⟩ | ⟨h, e⟩)
    · obtain ⟨p, q⟩ := e1.1 e
      exact ⟨2, by omega, by omega, by rw [hst 2 (by omega) (by omega), hxy]; simp; omega⟩
    · obtain ⟨p, q⟩ := (e2 h).1 e
      exact ⟨3, by omega, by omega, by rw [hst 3 (by omega) (by omega), hxy]; simp; omega⟩
    · obtain ⟨p, q⟩ := e3.1 e
      exact ⟨0, by omega, by omega, by rw [hst 0 (by omega) (by omega), hxy]; simp; omega⟩
    · obtain ⟨p, q⟩ := (e4 h).1 e
      exact ⟨1, by omega, by omega, by rw [hst 1 (by omega) (by omega), hxy]; simp; omega⟩
end Ref
end Go.Proofs.Ytjnjppikhdfomaa

namespace Go.Proofs.Ytjnjppikhdfomaa
open Go Go.RowKit Go.Proofs B Rng
namespace Ref
open Swp

theorem stepM_in {W H : Int} {C : List Int} (t : TileOK W H C) {c side : Int} (h : 0 ≤ stepM W H c side) : stepM W H c side < C.length := by
  have hlen := t.len
  have a := t.w0; have b := t.w1; have cc := t.h0; have d := t.h1
  rw [hlen]
  unfold stepM at *
  by_cases e : (isCellB W H c && inB side 0 4) = true
  · rw [if_pos e] at *
    generalize (if side = 1 then c % W + 1 else if side = 3 then c % W - 1 else c % W) = x at *
    generalize (if side = 0 then c / W - 1 else if side = 2 then c / W + 1 else c / W) = y at *
    unfold stepXY at *
    by_cases e2 : (inB x 0 (W - 1) && inB y 0 (H - 1)) = true
    · rw [if_pos e2] at *
      unfold inB at e2; simp only [Bool.and_eq_true, decide_eq_true_eq] at e2
      have := Int.mul_le_mul_of_nonneg_right (show y ≤ H - 1 by omega) (show 0 ≤ W by omega)
      rw [Int.sub_mul] at this
      rw [Int.mul_comm W H]; omega
    · rw [if_neg e2] at *; omega
  · rw [if_neg e] at *; omega

def EdgeOK (W H : Int) (C D : List Int) (c side : Int) : Prop := at0 C c ≠ 255 → 0 ≤ stepM W H c side → at0 C (stepM W H c side) ≠ 255 → at0 D c ≤ at0 D (stepM W H c side) + at0 C (stepM W H c side)

/-- All edges ahead of one have been looked at. -/
def Looked (W H : Int) (C D : List Int) (c side : Int) : Prop := ∀ c' s', 0 ≤ c' → 0 ≤ s' → s' ≤ 3 → (c' < c ∨ (c' = c ∧ s' < side)) → EdgeOK W H C D c' s'

structure Rel3 (W H : Int) (C : List Int) (l : List Sd) (D : List Int) : Prop where
  low : Low W H C l D
  seed : SeedK l l.length D

theorem Rel3.best {W H : Int} {C : List Int} {l : List Sd} {D : List Int} (t : TileOK W H C) (hS : SeedsOK C l) (h : Rel3 W H C l D) (hl : Looked W H C D C.length 0) : Best W H C l D := by
  refine ⟨h.low.len, ⟨fun c h0 h1 => (h.low.rng c h0 h1).2, fun s hs => ?_, fun m c m0 m1 hc hm hcc => ?_⟩, h.low.low⟩
  · obtain ⟨j, hj, he⟩ := List.getElem_of_mem hs
    exact h.seed j s hj (by rw [List.getElem?_eq_getElem hj, he])
  · obtain ⟨c0, c1⟩ := nb_in t m c m0 m1 hc
    obtain ⟨side, s0, s1, hs⟩ := (nb_step t c0 c1 m0 m1).2 hc
    have := hl c side c0 s0 s1 (.inl c1)
    unfold EdgeOK at this
    rw [hs] at this
    exact this hcc m0 hm

theorem Rel3.relax {W H : Int} {C : List Int} {l : List Sd} {D : List Int} (t : TileOK W H C) (hS : SeedsOK C l) (h : Rel3 W H C l D) {c side : Int} (c0 : 0 ≤ c) (c1 : c < C.length) (s0 : 0 ≤ side) (s1 : side ≤ 3) (hc : at0 C c ≠ 255) (hn : 0 ≤ stepM W H c side) (hcn : at0 C (stepM W H c side) ≠ 255)
    (hlt : at0 D (stepM W H c side) + at0 C (stepM W H c side) < at0 D c) :
    Rel3 W H C l (D.set c.toNat (at0 D (stepM W H c side) + at0 C (stepM W H c side))) ∧ sumD (D.set c.toNat (at0 D (stepM W H c side) + at0 C (stepM W H c side))) < sumD D := by
  have hn1 := stepM_in t hn
  have hlen := h.low.len
  generalize hm : stepM W H c side = m at *
  have hb := t.at0 m hn hn1
  have hr := h.low.rng m hn hn1
  have hrc := h.low.rng c c0 c1
  refine ⟨⟨⟨by rw [List.length_set]; exact hlen, fun x x0 x1 => ?_, fun E hE x x0 x1 => ?_⟩, fun j s hj hx => ?_⟩, ?_⟩
  · rw [at0_set D _ _ _ c0 (by omega) x0]
    split
    · omega
    · exact h.low.rng x x0 x1
  · rw [at0_set D _ _ _ c0 (by omega) x0]
    split
    · rename_i e; subst e
      have := h.low.low E hE m hn hn1
      have := hE.edge m x hn hn1 ((nb_step t c0 c1 hn hn1).1 ⟨side, s0, s1, hm⟩) hcn hc
      omega
    · exact h.low.low E hE x x0 x1
  · have := h.seed j s hj hx
    rw [at0_set D _ _ _ c0 (by omega) (hS s (List.mem_of_getElem? hx)).1]
    split
    · rename_i e; rw [e] at this; omega
    · exact this
  · refine sumD_set D _ _ (by omega) ?_
    change _ < (at0 D c).toNat
    omega

/-- A pass: nothing has turned yet and what has been looked at is right; or something has. -/
def Pass (D0 D : List Int) (again : Bool) (P : List Int → Prop) : Prop := (again = false ∧ D = D0 ∧ P D) ∨ (again = true ∧ sumD D < sumD D0)

theorem Pass.next {W H : Int} {C D0 D : List Int} {again : Bool} {c side : Int} (h : Pass D0 D again (fun D => Looked W H C D c side)) (he : EdgeOK W H C D c side) : Pass D0 D again (fun D => Looked W H C D c (side + 1)) := by
  rcases h with ⟨h1, h2, h3⟩ | h
  · refine .inl ⟨h1, h2, fun c' s' a b d e => ?_⟩
    by_cases e' : c' = c ∧ s' = side
    · obtain ⟨rfl, rfl⟩ := e'; exact he
    · exact h3 c' s' a b d (by omega)
  · exact .inr h
theorem Pass.row {W H : Int} {C D0 D : List Int} {again : Bool} {c side : Int} (h : Pass D0 D again (fun D => Looked W H C D c side)) (he : side = 4 ∨ at0 C c = 255) : Pass D0 D again (fun D => Looked W H C D (c + 1) 0) := by
  rcases h with ⟨h1, h2, h3⟩ | h
  · refine .inl ⟨h1, h2, fun c' s' a b d e => ?_⟩
    by_cases e1 : c' < c
    · exact h3 c' s' a b d (.inl e1)
    · obtain rfl : c' = c := by omega
      rcases he with he | he
      · exact h3 c' s' a b d (by omega)
      · intro hne; exact absurd he hne
  · exact .inr h
theorem Pass.relaxed {D0 D D' : List Int} {again : Bool} {P Q : List Int → Prop} (h : Pass D0 D again P) (hs : sumD D' < sumD D) : Pass D0 D' true Q := by
  rcases h with ⟨h1, h2, h3⟩ | h
  · subst h2; exact .inr ⟨rfl, hs⟩
  · exact .inr ⟨rfl, by omega⟩
end Ref
end Go.Proofs.Ytjnjppikhdfomaa

namespace Go.Proofs.Ytjnjppikhdfomaa
open Go Go.RowKit Go.Proofs B Rng
namespace Ref
open Swp

theorem DAt.later {W0 w w' : World} {g n cp : Nat} {D : List Int} (h : DAt W0 w g n cp D) (hn : Nw w w') : DAt W0 w' g n cp D := ⟨h.nw.trans hn, h.own.fr hn (fun _ _ h => h), h.new⟩
def P1 (W0 wr : World) (v : Value) (k : Nat) : Prop := Nw W0 wr ∧ Own wr 3 1 v k (List.replicate k (Value.int .i64 inf)) ∧ ∀ b, v.ownBlock = some b → W0.heap.size ≤ b

theorem P1.start (W0 : World) : P1 W0 W0 (.slice none 0 0) 0 := ⟨Nw.refl _, Own.nil _ _ _, fun b hb => by simp [Value.ownBlock] at hb⟩
theorem P1.next {W0 wr w' : World} {v v' : Value} {k : Nat} (h : P1 W0 wr v k) (ho : Own w' 3 1 v' (k + 1) (List.replicate k (Value.int .i64 inf) ++ [.int .i64 inf])) (hg : wr.grownBy w' v.ownBlock) (hb : v'.ownBlock = v.ownBlock ∨ ∃ g, v'.ownBlock = some g ∧ wr.heap.size ≤ g) : P1 W0 w' v' (k + 1) := by
  obtain ⟨h1, h2, h3⟩ := h
  refine ⟨Fr.grown h1 hg (fun b hb hlt => by have := h3 b hb; omega), by rw [List.replicate_succ']; exact ho, fun b hb' => ?_⟩
  rcases hb with hb | ⟨g, hb, hlt⟩
  · rw [hb] at hb'; exact h3 b hb'
  · rw [hb] at hb'; injection hb' with hb'; subst hb'; exact Nat.le_trans h1.size hlt
theorem P1.done {W0 wr : World} {v : Value} {n : Nat} (h : P1 W0 wr v n) (hn : 1 ≤ n) : ∃ g c, v = .slice (some ⟨g, 0, none⟩) n c ∧ DAt W0 wr g n c (List.replicate n inf) := by
  obtain ⟨h1, h2, h3⟩ := h
  obtain ⟨A, c, rfl, hA, _⟩ := h2.slice
  obtain ⟨g, rfl⟩ := hA (by omega)
  exact ⟨g, c, rfl, h1, by rw [List.map_replicate]; exact h2, h3 g rfl⟩

def RefPost (W H : Int) (C : List Int) (l : List Sd) (w : World) (e : Ending) (w' : World) : Prop :=
  ∃ g c D, e = .returned (.slice (some ⟨g, 0, none⟩) C.length c) ∧ Own w' 3 1 (.slice (some ⟨g, 0, none⟩) C.length c) C.length (D.map (Value.int .i64)) ∧ Best W H C l D ∧ Nw w w'

set_option maxRecDepth 100000 in
set_option maxHeartbeats 4000000 in
theorem refSpread_any (W H : Int) (A : Option Addr) (C : List Int) (cap : Nat) (As : Option Addr) (l : List Sd) (scap : Nat) (w : World) (h : RdN w .u8 A C) (t : TileOK W H C) (hs : RdS w As l) (hSO : SeedsOK C l) (hsl : l.length ≤ 65536) :
    Calls Try.prog 13 #[.agg #[.int .i64 W, .int .i64 H, .slice A C.length cap], .slice As l.length scap] w (RefPost W H C l w) := by
  obtain ⟨i0, hi, hz0, hz1, hz2⟩ := info_parts Try.infoInt
  have hN := Nw.alloc w (.cells #[.int .i64 W, .int .i64 H, .slice A C.length cap] 24)
  have hcl := t.le
  have hn1 : 1 ≤ C.length := by
    have := t.len; have := Int.mul_pos t.w0 t.h0; omega
  have HT : Hid (∀ V, Nw (w.alloc (.cells #[.int .i64 W, .int .i64 H, .slice A C.length cap] 24)) V → TBox V w.heap.size W H A C cap) := fun V hV => by
    have hr := Row.new w #[.int .i64 W, .int .i64 H, .slice A C.length cap] 24
    exact TBox.nw ⟨hr.cell 0, hr.cell 1, hr.cell 2, h.nw hN⟩ hV
  have HS : Hid (∀ V, Nw (w.alloc (.cells #[.int .i64 W, .int .i64 H, .slice A C.length cap] 24)) V → RdS V As l) := fun V hV => hs.nw (hN.trans hV)
  have HTO := Lib.hid t
  have HSO := Lib.hid hSO
  have HFIN : Hid (∀ V g c D, DAt (w.alloc (.cells #[.int .i64 W, .int .i64 H, .slice A C.length cap] 24)) V g C.length c D → Rel3 W H C l D → Looked W H C D C.length 0 → RefPost W H C l w (.returned (.slice (some ⟨g, 0, none⟩) C.length c)) V) := fun V g c D hd h3 hlk => ⟨g, c, D, rfl, hd.own, h3.best t hSO hlk, hN.trans hd.nw⟩
  have HST := fun c s V => Lib.hid (step_any W H c s V)
  have HW0 := Lib.hid (P1.start (w.alloc (.cells #[.int .i64 W, .int .i64 H, .slice A C.length cap] 24)))
  clear h hs hN t hSO
  generalize hTT : w.heap.size = T at HT
  have HTT := Lib.hid hTT
  have HLOW := Lib.hid (Low.start W H C l)
  generalize hn : C.length = n at *
  have HNN := Lib.hid hn
  have hn256 : n ≤ 256 := by omega
  generalize hm : l.length = m at *
  have HMM := Lib.hid hm
  generalize hpost : RefPost W H C l w = post at *
  clear hn hm hTT hpost
  go_enter Try.func13, Try.ntmps13
  go_wp2_with fail
  generalize (w.alloc (.cells #[.int .i64 W, .int .i64 H, .slice A n cap] 24)) = W0 at *
  rw [HTT.out]
  clear HTT
  go_loopg [5, 6] n (fun g x5 x6 wr => ∃ k : Nat, k ≤ n ∧ g + k = n ∧ x6 = .int .i64 k ∧ Hid (P1 W0 wr x5 k))
  case atStart => exact ⟨0, Nat.zero_le _, by omega, rfl, HW0⟩
  case round =>
    obtain ⟨k, hk, hg, rfl, hp1⟩ := hrel
    have d2 := (HT.out wr hp1.out.1).c2
    rw [HNN.out] at d2
    clear HW0
    by_cases hlt : k < n
    · have i1 : (k : Int) < n := by omega
      have hown := hp1.out.2.1
      obtain ⟨A5, c5, rfl, -⟩ := hown.slice
      go_wp2_with (at_builtin; refine wpL_append1 rfl (.tmp 19) (.tmp 20) 25 rfl 3 i0 (.int .i64 0) 1 8 Try.underlying25 hi hz0 hz1 hz2 rfl _ k _ [.int .i64 1099511627776] rfl hown rfl rfl ?h1 ?h63 ?hb ?_)
      case h1 => intro u hu; simp at hu; subst hu; rfl
      case h63 => unfold maxLen; omega
      case hb => omega
      intro V' w1 hown' hgrow hblk _ _
      have HP1 := Lib.hid (hp1.out.next hown' hgrow hblk)
      clear hown' hgrow hblk hown hp1 d2
      go_wp2
      go_roundg (gk - 1)
      case measure => omega
      case rel => exact ⟨k + 1, by omega, by omega, by go_num, HP1⟩
    · obtain rfl : n = k := by omega
      obtain ⟨g, c, rfl, hd⟩ := hp1.out.done hn1
      have HD := Lib.hid hd
      clear hp1 hd
      go_wp2_with fail
      go_loopg [7] m (fun gh x7 wr => ∃ (k : Nat) (D : List Int), k ≤ m ∧ gh + k = m ∧ x7 = .int .i64 k ∧ Hid (DAt W0 wr g n c D) ∧ Hid (Low W H C l D) ∧ Hid (SeedK l k D))
      case atStart => exact ⟨0, _, Nat.zero_le _, by omega, rfl, HD, HLOW, fun j s hj => by omega⟩
      case round =>
        obtain ⟨k, D, hk2, hg2, rfl, hD, hL, hK⟩ := hrel
        clear HD HLOW d2
        by_cases hlt2 : k < m
        · have hx : l[k]? = some (l[k]'(by rw [HMM.out]; omega)) := List.getElem?_eq_getElem _
          generalize l[k]'(by rw [HMM.out]; omega) = s at hx
          obtain ⟨sb, so, rfl, hc⟩ : ∃ ab ao, As = some ⟨ab, ao, none⟩ ∧ (wr.cell? ⟨ab, ao + k * 3, none⟩ = some (.int .i64 s.cell) ∧ wr.cell? ⟨ab, ao + k * 3 + 1, none⟩ = some (.int .i64 s.side) ∧ wr.cell? ⟨ab, ao + k * 3 + 2, none⟩ = some (.int .i64 s.key)) := by
            cases l with
            | nil => simp at hx
            | cons z l' => obtain ⟨b', o', h1, h2⟩ := (HS.out wr hD.out.nw) z l' rfl; exact ⟨b', o', h1, h2 k s hx⟩
          obtain ⟨q0, -, q2⟩ := hc
          obtain ⟨s0, s1, -, -, -⟩ := HSO.out s (List.mem_of_getElem? hx)
          rw [HNN.out] at s1
          obtain ⟨dc, df⟩ := hD.out.cell s.cell s0 s1
          obtain ⟨hL2, hK2⟩ := hL.out.seed HSO.out hK.out hx
          have HL2 := Lib.hid hL2
          have HK2 := Lib.hid hK2
          have HD2 : Hid (∀ q, DAt W0 ((wr.drewN q).setCell ⟨g, s.cell.toNat, none⟩ (.int .i64 (min (at0 D s.cell) s.key))) g n c (D.set s.cell.toNat (min (at0 D s.cell) s.key))) := fun q => (hD.out.drewN q).set _ _
          have i1 : (k : Int) < m := by omega
          clear hL hK hD hx hL2 hK2
          generalize s.cell = sc at *
          generalize s.key = sk at *
          generalize at0 D sc = dv at *
          go_wp2_with fail
          go_still_tail 20, (by kernel_rfl)
          go_wp2
          go_roundg (gk - 1)
          case measure => omega
          case rel => exact ⟨k + 1, _, by omega, by omega, by go_num, HD2.out 1, HL2, HK2⟩
        · obtain rfl : m = k := by omega
          have HR : Hid (Rel3 W H C l D) := ⟨hL.out, by rw [HMM.out]; exact hK.out⟩
          clear hL hK HS
          go_wp2_with fail
          go_loopg [8] (2 * sumD D + 1) (fun gh x8 wr => ∃ (D : List Int) (again : Bool), x8 = .bool again ∧ gh = 2 * sumD D + (if again then 1 else 0) ∧ Hid (DAt W0 wr g n c D) ∧ Hid (Rel3 W H C l D) ∧ Hid (again = false → Looked W H C D n 0))
          case atStart => exact ⟨D, true, rfl, rfl, hD, HR, fun h => by simp at h⟩
          case round =>
            clear hD HR
            obtain ⟨D0, again0, rfl, hg3, hD, hR, hLk⟩ := hrel
            cases again0 with
            | false =>
              have HF := Lib.hid (HFIN.out _ g c D0 hD.out hR.out (hLk.out rfl))
              clear hD hR hLk HFIN HT HST HTO HSO HMM HNN
              go_wp2
              exact HF.out
            | true =>
              have hg4 : gk = 2 * sumD D0 + 1 := hg3
              clear hg3 hLk
              go_wp2_with fail
              go_loopg [8, 9] n (fun gh x8 x9 wr => ∃ (D : List Int) (again : Bool) (k : Nat), x8 = .bool again ∧ x9 = .int .i64 k ∧ k ≤ n ∧ gh + k = n ∧ Hid (DAt W0 wr g n c D) ∧ Hid (Rel3 W H C l D) ∧ Hid (Pass D0 D again (fun D => Looked W H C D k 0)))
              case atStart => exact ⟨D0, false, 0, rfl, rfl, Nat.zero_le _, by omega, hD, hR, .inl ⟨rfl, rfl, fun c' s' a b d e => by omega⟩⟩
              case round =>
                clear hD hR
                obtain ⟨D, again, k, rfl, rfl, hk3, hg5, hD, hR, hP⟩ := hrel
                by_cases hlt3 : k < n
                · have i1 : (k : Int) < n := by omega
                  go_wp2_with fail
                  go_loopg [8, 10, 11] 4 (fun gh x8 x10 x11 wr => ∃ (D : List Int) (again : Bool) (s : Nat), x8 = .bool again ∧ x10 = .int .i64 s ∧ s ≤ 4 ∧ gh + s = 4 ∧ Hid (DAt W0 wr g n c D) ∧ Hid (Rel3 W H C l D) ∧ Hid (Pass D0 D again (fun D => Looked W H C D k s)))
                  case atStart => exact ⟨D, again, 0, rfl, rfl, by omega, by omega, hD, hR, hP⟩
                  case round =>
                    clear hD hR hP
                    obtain ⟨D, again, s, rfl, rfl, hs4, hg6, hD, hR, hPS⟩ := hrel
                    by_cases hs3 : s = 4
                    · subst hs3
                      have HPR : Hid (Pass D0 D again (fun D => Looked W H C D ((k + 1 : Nat) : Int) 0)) := Lib.hid (by have := hPS.out.row (.inl rfl); simpa using this)
                      clear hPS HST HT HFIN HTO HSO HNN HMM
                      go_wp2
                      go_roundg (n - (k + 1))
                      case measure => omega
                      case rel => exact ⟨D, again, k + 1, rfl, by go_num, by omega, by omega, hD, hR, HPR⟩
                    · have i2 : (s : Int) ≤ 3 := by omega
                      have hTB := HT.out _ hD.out.nw
                      have d0 := hTB.c0
                      have d1 := hTB.c1
                      have d2 := hTB.c2
                      rw [HNN.out] at d2
                      obtain ⟨tb, tof, rfl, bk⟩ := hTB.rd.at (show k < C.length by rw [HNN.out]; omega)
                      have ek : C.getD k 0 = at0 C (k : Int) := rfl
                      rw [ek] at bk
                      clear hTB ek
                      have hrk := hR.out.low.rng (k : Int) (by omega) (by rw [HNN.out]; exact i1)
                      cases hck : (at0 C (k : Int) == 255) with
                      | true =>
                        have HPR : Hid (Pass D0 D again (fun D => Looked W H C D ((k + 1 : Nat) : Int) 0)) := Lib.hid (by have := hPS.out.row (.inr (by simpa using hck)); simpa using this)
                        clear hPS HST HT HFIN HTO HSO HNN HMM
                        generalize at0 C (k : Int) = ck at *
                        go_wp2
                        go_roundg (n - (k + 1))
                        case measure => omega
                        case rel => exact ⟨D, again, k + 1, rfl, by go_num, by omega, by omega, hD, hR, HPR⟩
                      | false =>
                        have hck2 : at0 C (k : Int) ≠ 255 := by simpa using hck
                        go_wp2_with (go_at_call 27; refine ((HST _ _ _).out).mono ?_; rintro e w2 ⟨rfl, hw2⟩)
                        have hD3 := hD.out.later hw2
                        have HD3 : Hid (∀ q, DAt W0 (w2.drewN q) g n c D) := fun q => hD3.drewN q
                        have hTB := HT.out _ hD3.nw
                        have d0 := hTB.c0
                        have d1 := hTB.c1
                        have d2 := hTB.c2
                        rw [HNN.out] at d2
                        by_cases hr0 : 0 ≤ stepM W H (k : Int) (s : Int)
                        case neg =>
                          have hdd : decide (0 ≤ stepM W H (k : Int) (s : Int)) = false := by simpa using hr0
                          clear hTB hD3 hD
                          have HPN : Hid (Pass D0 D again (fun D => Looked W H C D (k : Int) ((s + 1 : Nat) : Int))) := Lib.hid (by have := hPS.out.next (fun _ h _ => absurd h hr0); simpa using this)
                          clear hPS HST HT HFIN HTO HSO HNN HMM
                          generalize stepM W H (k : Int) (s : Int) = r at *
                          go_wp2_with fail
                          go_quiet (fail)
                          go_wp2
                          go_roundg (gk - 1)
                          case measure => omega
                          case rel => exact ⟨D, again, s + 1, rfl, by go_num, by omega, by omega, HD3.out nq, hR, HPN⟩
                        case pos =>
                        have hr1 := stepM_in HTO.out hr0
                        rw [HNN.out] at hr1
                        have hCr := HTO.out.at0 _ hr0 (by rw [HNN.out]; exact hr1)
                        have hDr := hR.out.low.rng _ hr0 (by rw [HNN.out]; exact hr1)
                        obtain ⟨dr, -⟩ := hD3.cell _ hr0 hr1
                        obtain ⟨dk, fk⟩ := hD3.cell (k : Int) (by omega) i1
                        rw [Int.toNat_natCast] at dk fk
                        obtain ⟨tb2, tof2, e2, br⟩ := hTB.rd.at (show (stepM W H (k : Int) (s : Int)).toNat < C.length by rw [HNN.out]; omega)
                        injection e2 with e2
                        injection e2 with e2 e3
                        subst e2
                        subst e3
                        change _ = some (Value.int .u8 (at0 C (stepM W H (k : Int) (s : Int)))) at br
                        have HRL := Lib.hid (fun h1 h2 => hR.out.relax HTO.out HSO.out (c := (k : Int)) (side := (s : Int)) (by omega) (by rw [HNN.out]; exact i1) (by omega) i2 hck2 hr0 h1 h2)
                        clear hTB hD3 hD
                        cases hcr : (at0 C (stepM W H (k : Int) (s : Int)) == 255) with
                        | true =>
                          have hcn : (at0 C (stepM W H (k : Int) (s : Int)) != 255) = false := by simpa using hcr
                          clear HRL
                          have HPN : Hid (Pass D0 D again (fun D => Looked W H C D (k : Int) ((s + 1 : Nat) : Int))) := Lib.hid (by have := hPS.out.next (fun _ _ h => absurd (by simpa using hcr) h); simpa using this)
                          clear hPS HST HT HFIN HTO HSO HNN HMM
                          generalize stepM W H (k : Int) (s : Int) = r at *
                          go_wp2_with fail
                          go_quiet (fail)
                          go_wp2
                          go_roundg (gk - 1)
                          case measure => omega
                          case rel => exact ⟨D, again, s + 1, rfl, by go_num, by omega, by omega, HD3.out nq, hR, HPN⟩
                        | false =>
                        have hcr2 : at0 C (stepM W H (k : Int) (s : Int)) ≠ 255 := by simpa using hcr
                        have hcn : (at0 C (stepM W H (k : Int) (s : Int)) != 255) = true := by simpa using hcr
                        by_cases hdi : at0 D (stepM W H (k : Int) (s : Int)) < 1099511627776
                        case neg =>
                          clear HRL
                          have hdd : decide (at0 D (stepM W H (k : Int) (s : Int)) < 1099511627776) = false := by simpa using hdi
                          have hrk2 : at0 D (k : Int) ≤ 1099511627776 := hrk.2
                          have HPN : Hid (Pass D0 D again (fun D => Looked W H C D (k : Int) ((s + 1 : Nat) : Int))) := Lib.hid (by have := hPS.out.next (fun _ _ _ => by omega); simpa using this)
                          clear hPS HST HT HFIN HTO HSO HNN HMM
                          generalize stepM W H (k : Int) (s : Int) = r at *
                          go_wp2_with fail
                          go_quiet (fail)
                          go_wp2
                          go_roundg (gk - 1)
                          case measure => omega
                          case rel => exact ⟨D, again, s + 1, rfl, by go_num, by omega, by omega, HD3.out nq, hR, HPN⟩
                        case pos =>
                        have u0 := hCr.1
                        have u1 := hCr.2
                        have u2 := hDr.1
                        have hrk2 : at0 D (k : Int) ≤ 1099511627776 := hrk.2
                        have hrk0 := hrk.1
                        by_cases hlt4 : at0 D (stepM W H (k : Int) (s : Int)) + at0 C (stepM W H (k : Int) (s : Int)) < at0 D (k : Int)
                        case neg =>
                          clear HRL
                          have hdd : decide (at0 D (stepM W H (k : Int) (s : Int)) + at0 C (stepM W H (k : Int) (s : Int)) < at0 D (k : Int)) = false := by simpa using hlt4
                          have HPN : Hid (Pass D0 D again (fun D => Looked W H C D (k : Int) ((s + 1 : Nat) : Int))) := Lib.hid (by have := hPS.out.next (fun _ _ _ => by omega); simpa using this)
                          clear hrk hDr hCr
                          generalize at0 D (k : Int) = vdk at *
                          clear hPS HST HT HFIN HTO HSO HNN HMM
                          generalize stepM W H (k : Int) (s : Int) = r at *
                          go_wp2_with fail
                          go_quiet (fail)
                          go_wp2
                          go_roundg (gk - 1)
                          case measure => omega
                          case rel => exact ⟨D, again, s + 1, rfl, by go_num, by omega, by omega, HD3.out nq, hR, HPN⟩
                        case pos =>
                          obtain ⟨hR4, hsum⟩ := HRL.out hcr2 hlt4
                          rw [Int.toNat_natCast] at hR4 hsum
                          have HR4 := Lib.hid hR4
                          have HPN : Hid (Pass D0 (D.set k (at0 D (stepM W H (k : Int) (s : Int)) + at0 C (stepM W H (k : Int) (s : Int)))) true (fun D => Looked W H C D (k : Int) ((s + 1 : Nat) : Int))) := hPS.out.relaxed hsum
                          have HD4 : Hid (∀ q, DAt W0 ((w2.drewN q).setCell ⟨g, k, none⟩ (.int .i64 (at0 D (stepM W H (k : Int) (s : Int)) + at0 C (stepM W H (k : Int) (s : Int))))) g n c (D.set k (at0 D (stepM W H (k : Int) (s : Int)) + at0 C (stepM W H (k : Int) (s : Int))))) := fun q => (HD3.out q).set _ _
                          clear hPS HST HT HFIN HTO HSO HNN HMM HRL hR4 hsum hR HD3 hrk hDr hCr
                          generalize stepM W H (k : Int) (s : Int) = r at *
                          generalize at0 D (k : Int) = vdk at *
                          generalize at0 C (k : Int) = vck at *
                          go_wp2_with fail
                          go_quiet (fail)
                          have d2' : (w2.drewN nq).cell? ⟨T, 2, none⟩ = some (.slice (some ⟨tb, tof, none⟩) n cap) := d2
                          have dr' : (w2.drewN nq).cell? ⟨g, r.toNat, none⟩ = some (.int .i64 (at0 D r)) := dr
                          have dk' : (w2.drewN nq).cell? ⟨g, k, none⟩ = some (.int .i64 vdk) := dk
                          have fk' : (w2.drewN nq).frozen? ⟨g, k, none⟩ = false := fk
                          have br' : (w2.drewN nq).cell? ⟨tb, tof + r.toNat, none⟩ = some (.int .u8 (at0 C r)) := br
                          have HD5 : Hid (DAt W0 (((w2.drewN nq).drew).setCell ⟨g, k, none⟩ (.int .i64 (at0 D r + at0 C r))) g n c (D.set k (at0 D r + at0 C r))) := HD4.out (nq + 1)
                          clear HD4 d0 d1 d2 dr dk fk br bk
                          generalize w2.drewN nq = w3 at *
                          go_wp2_with fail
                          go_still_tail 13, (by kernel_rfl)
                          go_wp2
                          go_roundg (gk - 1)
                          case measure => omega
                          case rel => exact ⟨_, true, s + 1, rfl, by go_num, by omega, by omega, HD5, HR4, HPN⟩
                · have hkn : k = n := by omega
                  have HPE : Hid (again = false → Looked W H C D (n : Int) 0) := fun h => by
                    rcases hP.out with ⟨_, _, h3⟩ | ⟨h1, _⟩
                    · rw [hkn] at h3; exact h3
                    · rw [h] at h1; simp at h1
                  have hme : 2 * sumD D + (if again then 1 else 0) < 2 * sumD D0 + 1 := by
                    rcases hP.out with ⟨h1, h2, _⟩ | ⟨h1, h2⟩
                    · rw [h1, h2]; simp
                    · rw [h1]; simp; omega
                  have HME := Lib.hid hme
                  clear hme
                  have hnk : ¬ (k : Int) < n := by omega
                  clear hP HST HT HFIN HTO HSO HNN HMM
                  go_wp2
                  go_roundg (2 * sumD D + (if again then 1 else 0))
                  case measure => have := HME.out; omega
                  case rel => exact ⟨D, again, rfl, rfl, hD, hR, HPE⟩
end Ref
end Go.Proofs.Ytjnjppikhdfomaa
