/- seeds.May: the closure, the search for a bad one. -/
import Derived.Test.YtjnjppikhdfomaaM1
set_option linter.unusedVariables false
set_option linter.unusedSimpArgs false

namespace Go.Proofs.Ytjnjppikhdfomaa
open Go Go.RowKit Go.Proofs B Rng
namespace Swp

def at0 (l : List Int) (c : Int) : Int := l.getD c.toNat 0

/-- The locals beside one. -/
def nb (W H loc : Int) : List Int :=
  (if 0 < loc / W then [loc - W] else []) ++ ((if loc % W < W - 1 then [loc + 1] else []) ++ ((if loc / W < H - 1 then [loc + W] else []) ++ (if 0 < loc % W then [loc - 1] else [])))

theorem aroundM_nb (W H : Int) (C D : List Int) (loc key : Int) (z : Qs) : aroundM W H C D loc key z = (nb W H loc).foldl (fun z l => reachM C D l key z) z := by
  unfold aroundM nb
  by_cases h1 : 0 < loc / W <;> by_cases h2 : loc % W < W - 1 <;> by_cases h3 : loc / W < H - 1 <;> by_cases h4 : 0 < loc % W <;> simp [h1, h2, h3, h4]

/-- No way is shorter than what E says. -/
structure Stable (W H : Int) (C : List Int) (SS : List Sd) (E : Int → Int) : Prop where
  top : ∀ c : Int, 0 ≤ c → c < C.length → E c ≤ inf
  seed : ∀ s ∈ SS, E s.cell ≤ s.key
  edge : ∀ m c : Int, 0 ≤ m → m < C.length → c ∈ nb W H m → at0 C m ≠ 255 → at0 C c ≠ 255 → E c ≤ E m + at0 C m

/-- The greatest of them. -/
structure Best (W H : Int) (C : List Int) (SS : List Sd) (D : List Int) : Prop where
  len : D.length = C.length
  stable : Stable W H C SS (at0 D)
  great : ∀ E, Stable W H C SS E → ∀ c : Int, 0 ≤ c → c < C.length → E c ≤ at0 D c

theorem Best.unique {W H : Int} {C : List Int} {SS : List Sd} {D E : List Int} (h : Best W H C SS D) (k : Best W H C SS E) : D = E := by
  apply List.ext_getElem
  · rw [h.len, k.len]
  · intro i h1 h2
    have hi : (i : Int) < C.length := by have := h.len; omega
    have a := Int.le_antisymm (k.great _ h.stable (i : Int) (by omega) hi) (h.great _ k.stable (i : Int) (by omega) hi)
    simpa [at0, List.getD, List.getElem?_eq_getElem h1, List.getElem?_eq_getElem h2] using a

def InQ (at_ : Int) (q : Nat → List Int) (k c : Int) : Prop := at_ ≤ k ∧ k < at_ + 256 ∧ c ∈ q (k % 256).toNat

/-- How many wait in the buckets from 0 to n. -/
def cnt (q : Nat → List Int) : Nat → Nat
  | 0 => 0
  | n + 1 => cnt q n + (q n).length

theorem cnt_upd (q : Nat → List Int) (i : Nat) (l : List Int) (n : Nat) : cnt (upd q i l) n + (if i < n then (q i).length else 0) = cnt q n + (if i < n then l.length else 0) := by
  induction n with
  | zero => simp [cnt]
  | succ n ih =>
    simp only [cnt]
    by_cases e : n = i
    · subst e
      rw [upd_same]
      simp only [Nat.lt_irrefl, if_false, Nat.lt_succ_self, if_true] at ih ⊢
      omega
    · rw [upd_other _ _ e]
      by_cases hi : i < n
      · rw [if_pos hi, if_pos hi] at ih
        rw [if_pos (by omega), if_pos (by omega)]; omega
      · rw [if_neg hi, if_neg hi] at ih
        rw [if_neg (by omega), if_neg (by omega)]; omega
theorem cnt_zero {q : Nat → List Int} {n : Nat} (h : cnt q n = 0) : ∀ i, i < n → q i = [] := by
  induction n with
  | zero => intro i hi; omega
  | succ n ih =>
    intro i hi
    simp only [cnt] at h
    by_cases e : i = n
    · subst e; exact List.eq_nil_of_length_eq_zero (by omega)
    · exact ih (by omega) i (by omega)
theorem cnt_pos {q : Nat → List Int} {n : Nat} (h : 0 < cnt q n) : ∃ i, i < n ∧ q i ≠ [] := by
  induction n with
  | zero => simp [cnt] at h
  | succ n ih =>
    simp only [cnt] at h
    by_cases e : q n = []
    · rw [e] at h
      obtain ⟨i, hi, hq⟩ := ih (by simpa using h)
      exact ⟨i, by omega, hq⟩
    · exact ⟨n, by omega, e⟩

/-- The least key under which anything waits. -/
theorem first_key {at_ : Int} {q : Nat → List Int} (h0 : 0 ≤ at_) (h : 0 < cnt q 256) : ∃ a x xs, at_ ≤ a ∧ a < at_ + 256 ∧ q (a % 256).toNat = x :: xs ∧ ∀ b, at_ ≤ b → b < a → q (b % 256).toNat = [] := by
  have ex : ∃ n : Nat, n < 256 ∧ q ((at_ + n) % 256).toNat ≠ [] := by
    obtain ⟨i, hi, hq⟩ := cnt_pos h
    refine ⟨((i : Int) - at_).emod 256 |>.toNat, ?_, ?_⟩
    · have := Int.emod_lt_of_pos ((i : Int) - at_) (show (0 : Int) < 256 by omega)
      have := Int.emod_nonneg ((i : Int) - at_) (show (256 : Int) ≠ 0 by omega)
      show (((i : Int) - at_) % 256).toNat < 256
      omega
    · have e : ((at_ + ((((i : Int) - at_).emod 256).toNat : Int)) % 256).toNat = i := by
        show ((at_ + ((((i : Int) - at_) % 256).toNat : Int)) % 256).toNat = i
        omega
      rw [e]; exact hq
  obtain ⟨n, ⟨hn, hq⟩, hmin⟩ := exists_least ex
  match hqq : q ((at_ + n) % 256).toNat with
  | [] => exact absurd hqq hq
  | x :: xs =>
    refine ⟨at_ + n, x, xs, by omega, by omega, hqq, fun b hb0 hb1 => ?_⟩
    by_cases hb : q (b % 256).toNat = []
    · exact hb
    · have := hmin (b - at_).toNat ⟨by omega, by rw [show at_ + ((b - at_).toNat : Int) = b by omega]; exact hb⟩
      omega

/-- How many are not settled yet. -/
def unset (D : List Int) : Nat := D.countP (fun d => d = inf)

/-- What may be told as seeds. -/
def SeedsOK (C : List Int) (SS : List Sd) : Prop := ∀ s ∈ SS, 0 ≤ s.cell ∧ s.cell < C.length ∧ at0 C s.cell ≠ 255 ∧ 0 ≤ s.key ∧ s.key ≤ 1073741824

def ub (C D : List Int) : Int := 1073741824 + 256 * ((C.length : Int) - unset D)

/-- What holds at each moment; pend: whom x has not told yet. -/
structure SInv (W H : Int) (C : List Int) (SS : List Sd) (x : Int) (pend : List Int) (at_ : Int) (z : Qs) (todo : List Sd) (D : List Int) : Prop where
  a0 : 0 ≤ at_
  a1 : at_ ≤ ub C D
  len : D.length = C.length
  rng : ∀ k c, InQ at_ z.q k c → 0 ≤ c ∧ c < C.length ∧ at0 C c ≠ 255 ∧ k ≤ ub C D
  lowq : ∀ E, Stable W H C SS E → ∀ k c, InQ at_ z.q k c → E c ≤ k
  lowd : ∀ E, Stable W H C SS E → ∀ c : Int, 0 ≤ c → c < C.length → E c ≤ at0 D c
  fin : ∀ c : Int, 0 ≤ c → c < C.length → at0 D c ≠ inf → 0 ≤ at0 D c ∧ at0 D c ≤ at_ ∧ at0 C c ≠ 255
  edge : ∀ m c : Int, 0 ≤ m → m < C.length → 0 ≤ c → c < C.length → c ∈ nb W H m → at0 C m ≠ 255 → at0 C c ≠ 255 → at0 D m ≠ inf → (m = x ∧ c ∈ pend) ∨ (at0 D c ≠ inf ∧ at0 D c ≤ at0 D m + at0 C m) ∨ (at0 D c = inf ∧ ∃ k, k ≤ at0 D m + at0 C m ∧ InQ at_ z.q k c)
  seed : ∀ s ∈ SS, s ∈ todo ∨ (at0 D s.cell ≠ inf ∧ at0 D s.cell ≤ s.key) ∨ (at0 D s.cell = inf ∧ ∃ k, k ≤ s.key ∧ InQ at_ z.q k s.cell)
  sort : todo.Pairwise (fun a b => a.key ≤ b.key)
  todo : ∀ s ∈ todo, s ∈ SS ∧ at_ ≤ s.key
  cnt : z.len = cnt z.q 256

/-- One more waits. -/
theorem InQ.put {at_ : Int} {q : Nat → List Int} {key item : Int} (k0 : at_ ≤ key) (k1 : key - at_ < 256) (k c : Int) :
    InQ at_ (upd q (key % 256).toNat (q (key % 256).toNat ++ [item])) k c ↔ InQ at_ q k c ∨ (k = key ∧ c = item) := by
  unfold InQ
  by_cases e : (k % 256).toNat = (key % 256).toNat
  · rw [e, upd_same, List.mem_append]
    constructor
    · rintro ⟨h1, h2, h3 | h3⟩
      · exact .inl ⟨h1, h2, h3⟩
      · simp at h3; exact .inr ⟨by omega, h3⟩
    · rintro (⟨h1, h2, h3⟩ | ⟨rfl, rfl⟩)
      · exact ⟨h1, h2, .inl h3⟩
      · exact ⟨k0, by omega, .inr (by simp)⟩
  · rw [upd_other _ _ e]
    constructor
    · rintro ⟨h1, h2, h3⟩; exact .inl ⟨h1, h2, h3⟩
    · rintro (⟨h1, h2, h3⟩ | ⟨rfl, rfl⟩)
      · exact ⟨h1, h2, h3⟩
      · exact absurd rfl e

theorem cnt_put (z : Qs) (key item : Int) (h : z.len = cnt z.q 256) (k : 0 ≤ key) : z.len + 1 = (cnt (upd z.q (key % 256).toNat (z.q (key % 256).toNat ++ [item])) 256 : Nat) := by
  have := cnt_upd z.q (key % 256).toNat (z.q (key % 256).toNat ++ [item]) 256
  have hi : (key % 256).toNat < 256 := by omega
  rw [if_pos hi, if_pos hi, List.length_append] at this
  simp only [List.length_cons, List.length_nil] at this
  omega

theorem unset_le (D : List Int) : unset D ≤ D.length := List.countP_le_length

/-- x tells one of those beside it. -/
theorem SInv.reach {W H : Int} {C : List Int} {SS : List Sd} {x l : Int} {pend : List Int} {at_ : Int} {z : Qs} {todo : List Sd} {D : List Int} (h : SInv W H C SS x (l :: pend) at_ z todo D)
    (hC : ∀ b ∈ C, 1 ≤ b ∧ b ≤ 255) (hx0 : 0 ≤ x) (hx1 : x < C.length) (hl : l ∈ nb W H x) (hl0 : 0 ≤ l) (hl1 : l < C.length) (hd : at0 D x = at_) (hu : at_ + 256 ≤ ub C D) (hcx : at0 C x ≠ 255) (hbx : 0 ≤ at0 C x ∧ at0 C x ≤ 255) :
    SInv W H C SS x pend at_ (reachM C D l (at_ + at0 C x) z) todo D := by
  unfold reachM
  have k0 : at_ ≤ at_ + at0 C x := by omega
  have k1 : at_ + at0 C x - at_ < 256 := by omega
  by_cases hp : C.getD l.toNat 0 ≠ 255 ∧ D.getD l.toNat 0 = inf
  · rw [if_pos hp]
    have mono : ∀ {k c}, InQ at_ z.q k c → InQ at_ (upd z.q ((at_ + at0 C x) % 256).toNat (z.q ((at_ + at0 C x) % 256).toNat ++ [l])) k c := fun hq => (InQ.put k0 k1 _ _).2 (.inl hq)
    refine { h with rng := ?_, lowq := ?_, edge := ?_, seed := ?_, cnt := cnt_put z _ l h.cnt (by have := h.a0; omega) }
    · intro k c hq
      rcases (InQ.put k0 k1 _ _).1 hq with hq | ⟨rfl, rfl⟩
      · exact h.rng k c hq
      · exact ⟨hl0, hl1, hp.1, by omega⟩
    · intro E hE k c hq
      rcases (InQ.put k0 k1 _ _).1 hq with hq | ⟨rfl, rfl⟩
      · exact h.lowq E hE k c hq
      · have e1 := hE.edge x c hx0 hx1 hl hcx hp.1
        have e2 := h.lowd E hE x hx0 hx1
        omega
    · intro m c m0 m1 c0 c1 hn hm hc hdm
      rcases h.edge m c m0 m1 c0 c1 hn hm hc hdm with ⟨rfl, hpd⟩ | h2 | ⟨h2, k, hk, hq⟩
      · rcases List.mem_cons.1 hpd with rfl | hpd
        · exact .inr (.inr ⟨hp.2, _, by rw [hd]; exact Int.le_refl _, (InQ.put k0 k1 _ _).2 (.inr ⟨rfl, rfl⟩)⟩)
        · exact .inl ⟨rfl, hpd⟩
      · exact .inr (.inl h2)
      · exact .inr (.inr ⟨h2, k, hk, mono hq⟩)
    · intro s hs
      rcases h.seed s hs with h1 | h2 | ⟨h2, k, hk, hq⟩
      · exact .inl h1
      · exact .inr (.inl h2)
      · exact .inr (.inr ⟨h2, k, hk, mono hq⟩)
  · rw [if_neg hp]
    refine { h with edge := ?_ }
    intro m c m0 m1 c0 c1 hn hm hc hdm
    rcases h.edge m c m0 m1 c0 c1 hn hm hc hdm with ⟨rfl, hpd⟩ | h2
    · rcases List.mem_cons.1 hpd with rfl | hpd
      · have hdc : at0 D c ≠ inf := fun e => hp ⟨hc, e⟩
        have := h.fin c c0 c1 hdc
        exact .inr (.inl ⟨hdc, by omega⟩)
      · exact .inl ⟨rfl, hpd⟩
    · exact .inr h2

theorem SInv.around {W H : Int} {C : List Int} {SS : List Sd} {x : Int} {at_ : Int} {todo : List Sd} {D : List Int} (hC : ∀ b ∈ C, 1 ≤ b ∧ b ≤ 255) (hx0 : 0 ≤ x) (hx1 : x < C.length) (hd : at0 D x = at_) (hu : at_ + 256 ≤ ub C D) (hcx : at0 C x ≠ 255) (hbx : 0 ≤ at0 C x ∧ at0 C x ≤ 255) :
    ∀ (L : List Int) (z : Qs), (∀ l ∈ L, l ∈ nb W H x ∧ 0 ≤ l ∧ l < C.length) → SInv W H C SS x L at_ z todo D → SInv W H C SS x [] at_ (L.foldl (fun z l => reachM C D l (at_ + at0 C x) z) z) todo D := by
  intro L
  induction L with
  | nil => intro z _ h; exact h
  | cons l L ih =>
    intro z hL h
    obtain ⟨h1, h2, h3⟩ := hL l (by simp)
    exact ih _ (fun l hl => hL l (List.mem_cons_of_mem _ hl)) (h.reach hC hx0 hx1 h1 h2 h3 hd hu hcx hbx)

/-- Any x will do, where nobody is pending. -/
theorem SInv.any {W H : Int} {C : List Int} {SS : List Sd} {x y : Int} {at_ : Int} {z : Qs} {todo : List Sd} {D : List Int} (h : SInv W H C SS x [] at_ z todo D) : SInv W H C SS y [] at_ z todo D :=
  { h with edge := fun m c m0 m1 c0 c1 hn hm hc hdm => (h.edge m c m0 m1 c0 c1 hn hm hc hdm).imp (fun h => absurd h.2 (by simp)) id }

theorem at0_set (D : List Int) (x c a : Int) (hx0 : 0 ≤ x) (hx1 : x < D.length) (hc : 0 ≤ c) : at0 (D.set x.toNat a) c = if c = x then a else at0 D c := by
  unfold at0
  by_cases e : c = x
  · subst e
    rw [if_pos rfl, List.getD_eq_getElem?_getD, List.getElem?_set_self (by omega)]; rfl
  · rw [if_neg e, List.getD_eq_getElem?_getD, List.getElem?_set_ne (by omega), List.getD_eq_getElem?_getD]

theorem unset_set (D : List Int) (x a : Int) (hx0 : 0 ≤ x) (hx1 : x < D.length) (hx : at0 D x = inf) (ha : a ≠ inf) : unset (D.set x.toNat a) + 1 = unset D := by
  have hi : x.toNat < D.length := by omega
  have hg : D[x.toNat] = inf := by have := hx; unfold at0 at this; rw [List.getD_eq_getElem?_getD, List.getElem?_eq_getElem hi] at this; simpa using this
  unfold unset
  rw [List.countP_set hi]
  have hpos : 0 < D.countP (fun d => decide (d = inf)) := List.countP_pos_iff.2 ⟨D[x.toNat], List.getElem_mem hi, by simp [hg]⟩
  simp [hg, ha]
  omega
end Swp
end Go.Proofs.Ytjnjppikhdfomaa

namespace Go.Proofs.Ytjnjppikhdfomaa
open Go Go.RowKit Go.Proofs B Rng
namespace Swp

theorem InQ.sub {at_ a : Int} {q : Nat → List Int} {x : Int} {xs : List Int} (h0 : 0 ≤ at_) (ha0 : at_ ≤ a) (ha1 : a < at_ + 256) (hq : q (a % 256).toNat = x :: xs) (hmin : ∀ b, at_ ≤ b → b < a → q (b % 256).toNat = []) {k c : Int}
    (h : InQ a (upd q (a % 256).toNat xs) k c) : InQ at_ q k c := by
  obtain ⟨h1, h2, h3⟩ := h
  by_cases e : (k % 256).toNat = (a % 256).toNat
  · rw [e, upd_same] at h3
    exact ⟨by omega, by omega, by rw [e, hq]; exact List.mem_cons_of_mem _ h3⟩
  · rw [upd_other _ _ e] at h3
    by_cases hk : k < at_ + 256
    · exact ⟨by omega, hk, h3⟩
    · have := hmin (k - 256) (by omega) (by omega)
      rw [show ((k - 256) % 256).toNat = (k % 256).toNat by omega] at this
      rw [this] at h3; simp at h3

theorem InQ.sup {at_ a : Int} {q : Nat → List Int} {x : Int} {xs : List Int} (h0 : 0 ≤ at_) (ha0 : at_ ≤ a) (ha1 : a < at_ + 256) (hq : q (a % 256).toNat = x :: xs) (hmin : ∀ b, at_ ≤ b → b < a → q (b % 256).toNat = []) {k c : Int}
    (h : InQ at_ q k c) : a ≤ k ∧ (InQ a (upd q (a % 256).toNat xs) k c ∨ (k = a ∧ c = x)) := by
  obtain ⟨h1, h2, h3⟩ := h
  have hk : a ≤ k := by
    by_cases hk : a ≤ k
    · exact hk
    · rw [hmin k h1 (by omega)] at h3; simp at h3
  refine ⟨hk, ?_⟩
  by_cases e : (k % 256).toNat = (a % 256).toNat
  · have ek : k = a := by omega
    subst ek
    rw [hq] at h3
    rcases List.mem_cons.1 h3 with h3 | h3
    · exact .inr ⟨rfl, h3⟩
    · exact .inl ⟨by omega, by omega, by rw [upd_same]; exact h3⟩
  · exact .inl ⟨hk, by omega, by rw [upd_other _ _ e]; exact h3⟩

theorem cnt_pop {z : Qs} {a x : Int} {xs : List Int} (h : z.len = cnt z.q 256) (h0 : 0 ≤ a) (hq : z.q (a % 256).toNat = x :: xs) : z.len - 1 = (cnt (upd z.q (a % 256).toNat xs) 256 : Nat) := by
  have := cnt_upd z.q (a % 256).toNat xs 256
  have hi : (a % 256).toNat < 256 := by omega
  rw [if_pos hi, if_pos hi, hq] at this
  simp only [List.length_cons] at this
  omega

section
variable {W H : Int} {C : List Int} {SS : List Sd} {x0 : Int} {at_ a : Int} {z : Qs} {todo : List Sd} {D : List Int} {x : Int} {xs : List Int}

theorem SInv.popped (h : SInv W H C SS x0 [] at_ z todo D) (ha0 : at_ ≤ a) (ha1 : a < at_ + 256) (hq : z.q (a % 256).toNat = x :: xs) :
    0 ≤ x ∧ x < C.length ∧ at0 C x ≠ 255 ∧ a ≤ ub C D ∧ InQ at_ z.q a x := by
  have hi : InQ at_ z.q a x := ⟨ha0, ha1, by rw [hq]; simp⟩
  obtain ⟨h1, h2, h3, h4⟩ := h.rng a x hi
  exact ⟨h1, h2, h3, h4, hi⟩

theorem SInv.pop_old (h : SInv W H C SS x0 [] at_ z todo D) (hd : ∀ s ∈ todo, at_ + 256 ≤ s.key) (ha0 : at_ ≤ a) (ha1 : a < at_ + 256) (hq : z.q (a % 256).toNat = x :: xs) (hmin : ∀ b, at_ ≤ b → b < a → z.q (b % 256).toNat = [])
    (hx : at0 D x ≠ inf) : SInv W H C SS x0 [] a ⟨z.len - 1, upd z.q (a % 256).toNat xs⟩ todo D := by
  obtain ⟨x1, x2, x3, x4, x5⟩ := h.popped ha0 ha1 hq
  have sub : ∀ {k c}, InQ a (upd z.q (a % 256).toNat xs) k c → InQ at_ z.q k c := fun hh => InQ.sub h.a0 ha0 ha1 hq hmin hh
  have sup : ∀ {k c}, InQ at_ z.q k c → c ≠ x → InQ a (upd z.q (a % 256).toNat xs) k c := fun hh hc => (InQ.sup h.a0 ha0 ha1 hq hmin hh).2.resolve_right (fun e => hc e.2)
  refine { h with a0 := by have := h.a0; omega, a1 := x4, rng := fun k c hh => h.rng k c (sub hh), lowq := fun E hE k c hh => h.lowq E hE k c (sub hh), fin := ?_, edge := ?_, seed := ?_, todo := ?_, cnt := cnt_pop h.cnt (by have := h.a0; omega) hq }
  · intro c c0 c1 hc
    have := h.fin c c0 c1 hc
    exact ⟨this.1, by omega, this.2.2⟩
  · intro m c m0 m1 c0 c1 hn hm hc hdm
    rcases h.edge m c m0 m1 c0 c1 hn hm hc hdm with h1 | h2 | ⟨h2, k, hk, hh⟩
    · exact .inl h1
    · exact .inr (.inl h2)
    · exact .inr (.inr ⟨h2, k, hk, sup hh (fun e => hx (e ▸ h2))⟩)
  · intro s hs
    rcases h.seed s hs with h1 | h2 | ⟨h2, k, hk, hh⟩
    · exact .inl h1
    · exact .inr (.inl h2)
    · exact .inr (.inr ⟨h2, k, hk, sup hh (fun e => hx (e ▸ h2))⟩)
  · intro s hs
    have := hd s hs
    exact ⟨(h.todo s hs).1, by omega⟩

theorem SInv.pop_new (h : SInv W H C SS x0 [] at_ z todo D) (hd : ∀ s ∈ todo, at_ + 256 ≤ s.key) (ha0 : at_ ≤ a) (ha1 : a < at_ + 256) (hq : z.q (a % 256).toNat = x :: xs) (hmin : ∀ b, at_ ≤ b → b < a → z.q (b % 256).toNat = [])
    (hx : at0 D x = inf) (hu : ub C D < inf) : SInv W H C SS x (nb W H x) a ⟨z.len - 1, upd z.q (a % 256).toNat xs⟩ todo (D.set x.toNat a) ∧ unset (D.set x.toNat a) + 1 = unset D ∧ a + 256 ≤ ub C (D.set x.toNat a) ∧ at0 (D.set x.toNat a) x = a := by
  obtain ⟨x1, x2, x3, x4, x5⟩ := h.popped ha0 ha1 hq
  have sub : ∀ {k c}, InQ a (upd z.q (a % 256).toNat xs) k c → InQ at_ z.q k c := fun hh => InQ.sub h.a0 ha0 ha1 hq hmin hh
  have sup : ∀ {k c}, InQ at_ z.q k c → c ≠ x → InQ a (upd z.q (a % 256).toNat xs) k c := fun hh hc => (InQ.sup h.a0 ha0 ha1 hq hmin hh).2.resolve_right (fun e => hc e.2)
  have ge : ∀ {k c}, InQ at_ z.q k c → a ≤ k := fun hh => (InQ.sup h.a0 ha0 ha1 hq hmin hh).1
  have xl : x < (D.length : Int) := by have := h.len; omega
  have hain : a ≠ inf := by omega
  have hun := unset_set D x a x1 xl hx hain
  have hub : ub C (D.set x.toNat a) = ub C D + 256 := by unfold ub; omega
  have g : ∀ c, 0 ≤ c → at0 (D.set x.toNat a) c = if c = x then a else at0 D c := fun c hc => at0_set D x c a x1 xl hc
  have gx : at0 (D.set x.toNat a) x = a := by rw [g x x1, if_pos rfl]
  refine ⟨{ a0 := by have := h.a0; omega, a1 := by omega, len := by simpa using h.len, rng := ?_, lowq := fun E hE k c hh => h.lowq E hE k c (sub hh), lowd := ?_, fin := ?_, edge := ?_, seed := ?_, sort := h.sort, todo := ?_, cnt := cnt_pop h.cnt (by have := h.a0; omega) hq }, hun, by omega, gx⟩
  · intro k c hh
    obtain ⟨r1, r2, r3, r4⟩ := h.rng k c (sub hh)
    exact ⟨r1, r2, r3, by omega⟩
  · intro E hE c c0 c1
    rw [g c c0]
    split
    · rename_i e; subst e; exact h.lowq E hE a c x5
    · exact h.lowd E hE c c0 c1
  · intro c c0 c1 hc
    rw [g c c0] at hc ⊢
    by_cases e : c = x
    · subst e; rw [if_pos rfl]; exact ⟨by have := h.a0; omega, Int.le_refl _, x3⟩
    · rw [if_neg e] at hc ⊢
      have := h.fin c c0 c1 hc
      exact ⟨this.1, by omega, this.2.2⟩
  · intro m c m0 m1 c0 c1 hn hm hc hdm
    rw [g m m0] at hdm ⊢
    rw [g c c0]
    by_cases em : m = x
    · subst em; exact .inl ⟨rfl, hn⟩
    · rw [if_neg em] at hdm ⊢
      rcases h.edge m c m0 m1 c0 c1 hn hm hc hdm with h1 | h2 | ⟨h2, k, hk, hh⟩
      · exact absurd h1.2 (by simp)
      · have ec : c ≠ x := fun e => h2.1 (e ▸ hx)
        rw [if_neg ec]; exact .inr (.inl h2)
      · by_cases ec : c = x
        · subst ec
          rw [if_pos rfl]
          have := ge hh
          exact .inr (.inl ⟨hain, by omega⟩)
        · rw [if_neg ec]
          exact .inr (.inr ⟨h2, k, hk, sup hh ec⟩)
  · intro s hs
    rcases h.seed s hs with h1 | h2 | ⟨h2, k, hk, hh⟩
    · exact .inl h1
    · have ec : s.cell ≠ x := fun e => h2.1 (e ▸ hx)
      by_cases hc0 : 0 ≤ s.cell
      · rw [g _ hc0, if_neg ec]; exact .inr (.inl h2)
      · -- a seed below 0: its distance is that of place 0 in 'at0': not met, but said
        by_cases e0 : x = 0
        · subst e0
          have : at0 D s.cell = at0 D 0 := by unfold at0; rw [show s.cell.toNat = (0 : Int).toNat by omega]
          exact absurd (this.trans hx) h2.1
        · have : at0 (D.set x.toNat a) s.cell = at0 D s.cell := by
            unfold at0; rw [List.getD_eq_getElem?_getD, List.getElem?_set_ne (by omega), List.getD_eq_getElem?_getD]
          rw [this]; exact .inr (.inl h2)
    · obtain ⟨r1, r2, r3, r4⟩ := h.rng k _ hh
      rw [g _ r1]
      by_cases ec : s.cell = x
      · rw [if_pos ec]
        have := ge hh
        exact .inr (.inl ⟨hain, by omega⟩)
      · rw [if_neg ec]
        exact .inr (.inr ⟨h2, k, hk, sup hh ec⟩)
  · intro s hs
    have := hd s hs
    exact ⟨(h.todo s hs).1, by omega⟩

theorem ub_ge (h : D.length = C.length) : 1073741824 ≤ ub C D := by
  have := unset_le D; unfold ub; omega

theorem SInv.fillL (hS : SeedsOK C SS) : ∀ (todo : List Sd) (z : Qs), SInv W H C SS x0 [] at_ z todo D →
    SInv W H C SS x0 [] at_ (fillL at_ todo z).1 (fillL at_ todo z).2 D ∧ (∀ s ∈ (fillL at_ todo z).2, at_ + 256 ≤ s.key) ∧ (fillL at_ todo z).1.len + (fillL at_ todo z).2.length = z.len + todo.length ∧ z.len ≤ (fillL at_ todo z).1.len ∧ (∀ s l, todo = s :: l → s.key = at_ → z.len < (fillL at_ todo z).1.len) := by
  intro todo
  induction todo with
  | nil => intro z h; exact ⟨h, by simp [Swp.fillL], by simp [Swp.fillL], Int.le_refl _, by simp⟩
  | cons s l ih =>
    intro z h
    have hs := h.todo s (by simp)
    have hsort := List.pairwise_cons.1 h.sort
    by_cases hn : s.key - at_ < 256
    · have k0 := hs.2
      have mono : ∀ {k c}, InQ at_ z.q k c → InQ at_ (upd z.q (s.key % 256).toNat (z.q (s.key % 256).toNat ++ [s.cell])) k c := fun hq => (InQ.put k0 hn _ _).2 (.inl hq)
      have hso := hS s hs.1
      have h' : SInv W H C SS x0 [] at_ ⟨z.len + 1, upd z.q (s.key % 256).toNat (z.q (s.key % 256).toNat ++ [s.cell])⟩ l D := by
        refine { h with rng := ?_, lowq := ?_, edge := ?_, seed := ?_, sort := hsort.2, todo := fun s hs => h.todo s (List.mem_cons_of_mem _ hs), cnt := cnt_put z _ _ h.cnt hso.2.2.2.1 }
        · intro k c hq
          rcases (InQ.put k0 hn _ _).1 hq with hq | ⟨rfl, rfl⟩
          · exact h.rng k c hq
          · exact ⟨hso.1, hso.2.1, hso.2.2.1, Int.le_trans hso.2.2.2.2 (ub_ge h.len)⟩
        · intro E hE k c hq
          rcases (InQ.put k0 hn _ _).1 hq with hq | ⟨rfl, rfl⟩
          · exact h.lowq E hE k c hq
          · exact hE.seed s hs.1
        · intro m c m0 m1 c0 c1 hn' hm hc hdm
          rcases h.edge m c m0 m1 c0 c1 hn' hm hc hdm with h1 | h2 | ⟨h2, k, hk, hh⟩
          · exact .inl h1
          · exact .inr (.inl h2)
          · exact .inr (.inr ⟨h2, k, hk, mono hh⟩)
        · intro s' hs'
          rcases h.seed s' hs' with h1 | h2 | ⟨h2, k, hk, hh⟩
          · rcases List.mem_cons.1 h1 with rfl | h1
            · by_cases hd : at0 D s'.cell = inf
              · exact .inr (.inr ⟨hd, s'.key, Int.le_refl _, (InQ.put k0 hn _ _).2 (.inr ⟨rfl, rfl⟩)⟩)
              · have := h.fin s'.cell hso.1 hso.2.1 hd
                exact .inr (.inl ⟨hd, by omega⟩)
            · exact .inl h1
          · exact .inr (.inl h2)
          · exact .inr (.inr ⟨h2, k, hk, mono hh⟩)
      obtain ⟨i1, i2, i3, i4, _⟩ := ih _ h'
      simp only [Swp.fillL]
      rw [if_pos hn]
      refine ⟨i1, i2, ?_, ?_, fun _ _ _ _ => ?_⟩
      · rw [i3]; simp only [List.length_cons]; show z.len + 1 + _ = _; omega
      · have : z.len + 1 ≤ _ := i4; omega
      · have : z.len + 1 ≤ _ := i4; omega
    · simp only [Swp.fillL]
      rw [if_neg hn]
      refine ⟨h, ?_, rfl, Int.le_refl _, fun s' l' e hk => ?_⟩
      · intro s' hs'
        rcases List.mem_cons.1 hs' with rfl | hs'
        · omega
        · have := hsort.1 s' hs'; omega
      · injection e with e _; subst e; omega

/-- Behind a fill: what holds, and that nothing is left over where nothing waits. -/
theorem SInv.fill (hS : SeedsOK C SS) (h : SInv W H C SS x0 [] at_ z todo D) :
    SInv W H C SS x0 [] (fillAt at_ z todo) (Swp.fillL (fillAt at_ z todo) todo z).1 (Swp.fillL (fillAt at_ z todo) todo z).2 D ∧
      (∀ s ∈ (Swp.fillL (fillAt at_ z todo) todo z).2, fillAt at_ z todo + 256 ≤ s.key) ∧ ((Swp.fillL (fillAt at_ z todo) todo z).1.len = 0 → (Swp.fillL (fillAt at_ z todo) todo z).2 = []) ∧
      (Swp.fillL (fillAt at_ z todo) todo z).1.len + (Swp.fillL (fillAt at_ z todo) todo z).2.length = z.len + todo.length := by
  cases todo with
  | nil =>
    simp only [fillAt, Swp.fillL]
    exact ⟨h, by simp, fun _ => trivial, trivial⟩
  | cons s l =>
    have hs := h.todo s (by simp)
    have hso := hS s hs.1
    have hsort := List.pairwise_cons.1 h.sort
    have z0 : 0 ≤ z.len := by rw [h.cnt]; omega
    by_cases hz : z.len = 0
    · have he : ∀ i, i < 256 → z.q i = [] := cnt_zero (by have := h.cnt; omega)
      have no : ∀ {at' k c}, ¬ InQ at' z.q k c := fun {at' k c} ⟨_, _, hh⟩ => by rw [he _ (by omega)] at hh; simp at hh
      have h' : SInv W H C SS x0 [] s.key z (s :: l) D := by
        refine { h with a0 := hso.2.2.2.1, a1 := Int.le_trans hso.2.2.2.2 (ub_ge h.len), rng := fun k c hh => (no hh).elim, lowq := fun E hE k c hh => (no hh).elim, fin := ?_, edge := ?_, seed := ?_, todo := ?_ }
        · intro c c0 c1 hc
          have := h.fin c c0 c1 hc
          exact ⟨this.1, by omega, this.2.2⟩
        · intro m c m0 m1 c0 c1 hn' hm hc hdm
          rcases h.edge m c m0 m1 c0 c1 hn' hm hc hdm with h1 | h2 | ⟨h2, k, hk, hh⟩
          · exact .inl h1
          · exact .inr (.inl h2)
          · exact (no hh).elim
        · intro s' hs'
          rcases h.seed s' hs' with h1 | h2 | ⟨h2, k, hk, hh⟩
          · exact .inl h1
          · exact .inr (.inl h2)
          · exact (no hh).elim
        · intro s' hs'
          rcases List.mem_cons.1 hs' with rfl | hs''
          · exact ⟨hs.1, Int.le_refl _⟩
          · exact ⟨(h.todo s' hs').1, hsort.1 s' hs''⟩
      have ef : fillAt at_ z (s :: l) = s.key := by simp [fillAt, hz]
      rw [ef]
      obtain ⟨i1, i2, i3, i4, i5⟩ := SInv.fillL hS (s :: l) z h'
      exact ⟨i1, i2, fun e => by have := i5 s l rfl rfl; omega, i3⟩
    · have ef : fillAt at_ z (s :: l) = at_ := by simp [fillAt, hz]
      rw [ef]
      obtain ⟨i1, i2, i3, i4, i5⟩ := SInv.fillL hS (s :: l) z h
      exact ⟨i1, i2, fun e => by omega, i3⟩

/-- Where nothing waits and nothing is to come, the distances are the greatest stable ones. -/
theorem SInv.best (h : SInv W H C SS x0 [] at_ z [] D) (hz : z.len = 0) (hu : ub C D < inf) (hn : ∀ m c : Int, 0 ≤ m → m < C.length → c ∈ nb W H m → 0 ≤ c ∧ c < C.length) (hC : ∀ c : Int, 0 ≤ c → c < C.length → 0 ≤ at0 C c) : Best W H C SS D := by
  have he : ∀ i, i < 256 → z.q i = [] := cnt_zero (by have := h.cnt; omega)
  have no : ∀ {at' k c}, ¬ InQ at' z.q k c := fun {at' k c} ⟨_, _, hh⟩ => by rw [he _ (by omega)] at hh; simp at hh
  have top : ∀ c : Int, 0 ≤ c → c < C.length → at0 D c ≤ inf := fun c c0 c1 => by
    by_cases hc : at0 D c = inf
    · omega
    · have := h.fin c c0 c1 hc; have := h.a1; omega
  refine ⟨h.len, ⟨top, ?_, ?_⟩, h.lowd⟩
  · intro s hs
    rcases h.seed s hs with h1 | h2 | ⟨h2, k, hk, hh⟩
    · simp at h1
    · exact h2.2
    · exact (no hh).elim
  · intro m c m0 m1 hnb hm hc
    obtain ⟨c0, c1⟩ := hn m c m0 m1 hnb
    by_cases hdm : at0 D m = inf
    · have := top c c0 c1; have := hC m m0 m1; omega
    · rcases h.edge m c m0 m1 c0 c1 hnb hm hc hdm with h1 | h2 | ⟨h2, k, hk, hh⟩
      · exact absurd h1.2 (by simp)
      · exact h2.2
      · exact (no hh).elim
end
end Swp
end Go.Proofs.Ytjnjppikhdfomaa

namespace Go.Proofs.Ytjnjppikhdfomaa
open Go Go.RowKit Go.Proofs B Rng
namespace Swp

section
variable {w0 w : World} {h : Sh} {G : Nat → Prop} {at_ : Int} {tot : Nat} {z : Qs} {todo : List Sd} {D : List Int}

theorem SwPost.c5 (S : SwPost w0 h G at_ tot z todo D w) :
    w.cell? ⟨h.s, 3, none⟩ = some (.pointer (some ⟨h.r, 0, none⟩)) ∧ w.cell? ⟨h.s, 5, none⟩ = some (.slice (some ⟨h.d, 0, none⟩) D.length h.dcap) := by
  obtain ⟨F1, ⟨A, cp, S1⟩, _, _⟩ := S
  obtain ⟨a, _, b, _⟩ := S1.cells
  exact ⟨a, b⟩

theorem SwPost.dc (S : SwPost w0 h G at_ tot z todo D w) (x : Int) (hx0 : 0 ≤ x) (hx1 : x < D.length) :
    w.cell? ⟨h.d, x.toNat, none⟩ = some (.int .i64 (at0 D x)) ∧ w.frozen? ⟨h.d, x.toNat, none⟩ = false := by
  obtain ⟨F1, ⟨A, cp, S1⟩, _, _⟩ := S
  exact ⟨S1.dist.cells rfl _ _ (by rw [List.getElem?_map, getD_some 0 (show x.toNat < D.length by omega)]; rfl), S1.dist.free rfl _⟩

theorem SwPost.setDist (S : SwPost w0 h G at_ tot z todo D w) (hG : G h.d) (x a : Int) : SwPost w0 h G at_ tot z todo (D.set x.toNat a) (w.setCell ⟨h.d, x.toNat, none⟩ (.int .i64 a)) := by
  obtain ⟨F1, ⟨A, cp, S1⟩, hF, hf⟩ := S
  have hs : Fr (fun k => k = h.d) w (w.setCell ⟨h.d, x.toNat, none⟩ (.int .i64 a)) := (Fr.refl (fun k => k = h.d) w).setCell (p := ⟨h.d, x.toNat, none⟩) (fun _ => rfl) _
  refine ⟨F1, ⟨A, cp, { S1 with row := ?_, todo := ?_, bytes := ?_, dist := ?_, ring := S1.ring.other hs (fun k hk e => S1.nd (e ▸ hk)), tlt := Nat.lt_of_lt_of_le S1.tlt hs.size, qlt := Nat.lt_of_lt_of_le S1.qlt hs.size }⟩, hF, hf.trans hs (fun k _ e => e ▸ hG)⟩
  · rw [List.length_set]; exact S1.row.fr hs S1.sd
  · intro sd l hl
    obtain ⟨o, ha, hc⟩ := S1.todo sd l hl
    refine ⟨o, ha, fun j x hx => ?_⟩
    obtain ⟨h1, h2, h3⟩ := hc j x hx
    exact ⟨(hs.cell (p := ⟨h.qb, _, none⟩) S1.qlt S1.qd).trans h1, (hs.cell (p := ⟨h.qb, _, none⟩) S1.qlt S1.qd).trans h2, (hs.cell (p := ⟨h.qb, _, none⟩) S1.qlt S1.qd).trans h3⟩
  · intro j b hb
    exact (hs.cell (p := ⟨h.tb, _, none⟩) S1.tlt S1.td).trans (S1.bytes j b hb)
  · have := S1.dist.set x.toNat (.int .i64 a)
    rw [List.length_set, List.map_set]; exact this

/-- A step behind another one. -/
theorem SwPost.from {w1 w2 : World} {F F1 : Nat → Prop} (hF : ∀ k, F1 k → F k ∨ w.heap.size ≤ k) (hf : Fr F w w1)
    (S : SwPost w1 h F1 at_ tot z todo D w2) : SwPost w h F at_ tot z todo D w2 := by
  obtain ⟨F2, S2, hF2, hf2⟩ := S
  refine ⟨F2, S2, ?_, hf.trans hf2 ?_⟩
  · intro k hk
    rcases hF2 k hk with h2 | h2
    · exact hF k h2
    · exact .inr (Nat.le_trans hf.size h2)
  · intro k hk h2
    rcases hF k h2 with h3 | h3
    · exact h3
    · omega

theorem len_p (S : SwPost w0 h G at_ tot z todo D w) :
    Calls Try.prog 60 #[.pointer (some ⟨h.r, 0, none⟩)] w fun e w' => e = .returned (.int .i64 z.len) ∧ w = w' := by
  obtain ⟨F1, ⟨A, cp, S1⟩, hF, hf⟩ := S
  exact rlen h.r F1 at_ z.len tot z.q w S1.ring

theorem pop_p (S : SwPost w0 h G at_ tot z todo D w) (a x : Int) (xs : List Int) (b0 : 0 ≤ at_) (b1 : at_ ≤ a) (b2 : a ≤ 1099511627776) (l0 : 0 < z.len) (l1 : z.len ≤ 1099511627776) (ht : tot ≤ 1099511627776)
    (hq : z.q (a % 256).toNat = x :: xs) (hb : ∀ b, at_ ≤ b → b < a → z.q (b % 256).toNat = []) :
    Calls Try.prog 61 #[.pointer (some ⟨h.r, 0, none⟩)] w fun e w' => e = .returned (.tuple #[.int .i64 a, .int .i64 x, .bool true]) ∧ SwPost w0 h G a tot ⟨z.len - 1, upd z.q (a % 256).toNat xs⟩ todo D w' := by
  obtain ⟨F1, ⟨A, cp, S1⟩, hF, hf⟩ := S
  refine (rpop h.r F1 at_ z.len tot z.q a x xs w S1.ring b0 b1 b2 l0 l1 ht hq hb).mono ?_
  rintro e w' ⟨rfl, hr, hf2⟩
  exact ⟨rfl, SwPost.from hF hf ⟨F1, ⟨A, cp, S1.ring' hf2 hr (fun _ h => .inl h)⟩, fun _ h => .inl h, hf2⟩⟩

theorem around_p (S : SwPost w0 h G at_ tot z todo D w) (loc : Int)
    (w0' : 0 < h.W) (w1 : h.W ≤ 16) (h0 : 0 < h.H) (h1 : h.H ≤ 16) (hn : (h.C.length : Int) = h.W * h.H) (hl9 : (h.C.length : Int) ≤ 256)
    (l0 : 0 ≤ loc) (l1 : loc < h.C.length) (l2 : h.C.length = D.length) (a0 : 0 ≤ at_) (a1 : at_ ≤ 549755813888) (hd : at0 D loc = at_) (hb0 : 0 ≤ at0 h.C loc) (hb1 : at0 h.C loc < 256)
    (z0 : 0 ≤ z.len) (z1 : z.len < 549755813000) (t1 : tot < 549755813000) :
    Calls Try.prog 62 #[.pointer (some ⟨h.s, 0, none⟩), .int .i64 loc] w fun e w' => e = .returned (.tuple #[]) ∧ SwPost w0 h G at_ (tot + 4) (aroundM h.W h.H h.C D loc (at_ + at0 h.C loc) z) todo D w' := by
  obtain ⟨F1, S1, hF, hf⟩ := S
  refine (around_any h F1 at_ tot z todo D loc w S1 w0' w1 h0 h1 hn hl9 l0 l1 l2 a0 a1 hd hb0 hb1 z0 z1 t1).mono ?_
  rintro e w' ⟨rfl, S2⟩
  exact ⟨rfl, SwPost.from hF hf S2⟩
end

/-- A tile that may be. -/
structure TileOK (W H : Int) (C : List Int) : Prop where
  w0 : 0 < W
  w1 : W ≤ 16
  h0 : 0 < H
  h1 : H ≤ 16
  len : (C.length : Int) = W * H
  bytes : ∀ b ∈ C, 1 ≤ b ∧ b ≤ 255

theorem TileOK.le {W H : Int} {C : List Int} (t : TileOK W H C) : (C.length : Int) ≤ 256 := by
  have a := t.w0; have b := t.w1; have c := t.h0; have d := t.h1
  have : W * H ≤ 16 * 16 := Int.mul_le_mul b d (by omega) (by omega)
  rw [t.len]; omega
theorem TileOK.at0 {W H : Int} {C : List Int} (t : TileOK W H C) (c : Int) (h0 : 0 ≤ c) (h1 : c < C.length) : 1 ≤ at0 C c ∧ at0 C c ≤ 255 := by
  unfold Swp.at0
  rw [List.getD_eq_getElem?_getD, List.getElem?_eq_getElem (show c.toNat < C.length by omega)]
  exact t.bytes _ (List.getElem_mem _)
theorem nb_in {W H : Int} {C : List Int} (t : TileOK W H C) (m c : Int) (m0 : 0 ≤ m) (m1 : m < C.length) (h : c ∈ nb W H m) : 0 ≤ c ∧ c < C.length := by
  obtain ⟨b1, b2, b3, b4⟩ := beside W H m C.length t.w0 m0 t.len m1
  have := t.w0
  unfold nb at h
  simp only [List.mem_append] at h
  rcases h with h | h | h | h <;> split at h <;> simp at h <;> subst h
  · rename_i c; have := b1 c; omega
  · rename_i c; have := b2 c; omega
  · rename_i c; have := b3 c; omega
  · rename_i c; have := b4 c; omega

def Head (at_ : Int) (z : Qs) (todo : List Sd) : Prop := (∀ s ∈ todo, at_ + 256 ≤ s.key) ∧ (z.len = 0 → todo = [])

def RunRel (w0 : World) (h : Sh) (G : Nat → Prop) (SS : List Sd) (T : Nat) (k : Nat) (wr : World) : Prop :=
  ∃ at_ tot z todo D, SwPost w0 h G at_ tot z todo D wr ∧ SInv h.W h.H h.C SS 0 [] at_ z todo D ∧ Head at_ z todo ∧ (k : Int) = 5 * unset D + z.len + todo.length ∧ tot + k * 70000 ≤ T ∧ k ≤ 66900

def RunPost (w0 : World) (h : Sh) (G : Nat → Prop) (SS : List Sd) (w' : World) : Prop :=
  ∃ at_ tot z D, SwPost w0 h G at_ tot z [] D w' ∧ Best h.W h.H h.C SS D

theorem ub_le {W H : Int} {C D : List Int} (t : TileOK W H C) : ub C D ≤ 1073807360 := by
  have := t.le; unfold ub; omega

/-- fill, behind a round. -/
theorem fill_p {w0 w : World} {h : Sh} {G : Nat → Prop} {SS : List Sd} {T : Nat} {at_ : Int} {tot : Nat} {z : Qs} {todo : List Sd} {D : List Int} {x : Int} (t : TileOK h.W h.H h.C) (hS : SeedsOK h.C SS) (hG : G h.s) (S : SwPost w0 h G at_ tot z todo D w) (I : SInv h.W h.H h.C SS x [] at_ z todo D)
    (k : Nat) (hk : (k : Int) = 5 * unset D + z.len + todo.length) (hT : tot + 66900 + k * 70000 ≤ T) (hT2 : T ≤ 549755000000) (hk2 : k ≤ 66900) :
    Calls Try.prog 59 #[.pointer (some ⟨h.s, 0, none⟩)] w fun e w' => e = .returned (.tuple #[]) ∧ RunRel w0 h G SS T k w' := by
  have z0 : 0 ≤ z.len := by rw [I.cnt]; omega
  have hub := ub_le (D := D) t
  have ha := I.a1
  refine (fill_any h G at_ tot z todo D w0 w hG I.a0 (by omega) S (fun s hs => ⟨(I.todo s hs).2, (hS s (I.todo s hs).1).2.2.2.2⟩) ?_ z0 (by omega) (by omega)).mono ?_
  · intro s l e y hy
    subst e
    rcases List.mem_cons.1 hy with rfl | hy
    · exact Int.le_refl _
    · exact (List.pairwise_cons.1 I.sort).1 y hy
  · rintro e w' ⟨rfl, S'⟩
    obtain ⟨i1, i2, i3, i4⟩ := I.fill hS
    exact ⟨rfl, _, _, _, _, D, S', i1.any, ⟨i2, i3⟩, by omega, by omega, hk2⟩

set_option maxHeartbeats 4000000 in
/-- What run does. -/
theorem run_any (h : Sh) (G : Nat → Prop) (SS : List Sd) (at_ : Int) (z : Qs) (todo : List Sd) (D : List Int) (w0 w : World) (t : TileOK h.W h.H h.C) (hS : SeedsOK h.C SS) (hG : G h.s) (hGd : G h.d)
    (S : SwPost w0 h G at_ 0 z todo D w) (I : SInv h.W h.H h.C SS 0 [] at_ z todo D) (hlen : z.len + todo.length ≤ 65536) :
    Calls Try.prog 32 #[.pointer (some ⟨h.s, 0, none⟩)] w fun e w' => e = .returned (.tuple #[]) ∧ RunPost w0 h G SS w' := by
  have z0 : 0 ≤ z.len := by rw [I.cnt]; omega
  have hun := unset_le D
  have hl := I.len
  have ht := t.le
  obtain ⟨k0, hk0⟩ : ∃ k0 : Nat, (k0 : Int) = 5 * unset D + z.len + todo.length := ⟨(5 * unset D + z.len + todo.length).toNat, by omega⟩
  obtain ⟨T, hT⟩ : ∃ T : Nat, T = 66900 + k0 * 70000 := ⟨_, rfl⟩
  have hT2 : T ≤ 549755000000 := by omega
  have HF := Lib.hid (fill_p (T := T) t hS hG S I k0 hk0 (by omega) hT2 (by omega))
  clear S I hT hk0 z0 hun hl
  go_enter Try.func32, Try.ntmps32
  go_wp2_with (go_at_call 59; refine (HF.out).mono ?_; rintro e w' ⟨rfl, hR⟩)
  go_loopg [] k0 (fun k wr => RunRel w0 h G SS T k wr)
  case atStart => exact hR
  case round =>
    clear HF hR
    obtain ⟨a', tot, z, todo, D, S, I, hH, hk, htot, hk2⟩ := hrel
    obtain ⟨c3, c5⟩ := S.c5
    have z0 : 0 ≤ z.len := by rw [I.cnt]; omega
    have HL := Lib.hid (len_p S)
    have hub := ub_le (D := D) t
    have ha0 := I.a0
    have ha1 := I.a1
    by_cases hz : z.len = 0
    · have HE : Hid (RunPost w0 h G SS wr) := by
        have ht0 := hH.2 hz
        subst ht0
        exact ⟨_, _, _, _, S, I.best hz (by unfold inf; omega) (fun m c m0 m1 hc => nb_in t m c m0 m1 hc) (fun c c0 c1 => by have := t.at0 c c0 c1; omega)⟩
      have HL' : Hid (Calls Try.prog 60 #[.pointer (some ⟨h.r, 0, none⟩)] wr fun e w' => e = .returned (.int .i64 0) ∧ wr = w') := by have := HL.out; rw [hz] at this; exact this
      clear HL S I hH hk htot hk2 c5 z0 hub ha0 ha1 hz
      go_wp2_with (go_at_call 60; refine (HL'.out).mono ?_; rintro e w' ⟨rfl, rfl⟩)
      go_end0
      exact ⟨rfl, HE.out⟩
    · have hz1 : 0 < z.len := by omega
      obtain ⟨a, x, xs, f0, f1, hq, hmin⟩ := first_key ha0 (show 0 < cnt z.q 256 by have := I.cnt; omega)
      obtain ⟨x0, x1, x2, x3, x4⟩ := I.popped f0 f1 hq
      have hDl := I.len
      have HP := Lib.hid (pop_p S a x xs ha0 f0 (by omega) hz1 (by omega) (by omega) hq hmin)
      have hx1 : x < (D.length : Int) := by omega
      by_cases hd : at0 D x = inf
      · obtain ⟨j1, j2, j3, j4⟩ := I.pop_new hH.1 f0 f1 hq hmin hd (by unfold inf; omega)
        obtain ⟨cx0, cx1⟩ := t.at0 x x0 x1
        have HA : Hid (∀ w1, SwPost w0 h G a tot ⟨z.len - 1, upd z.q (a % 256).toNat xs⟩ todo D w1 → Calls Try.prog 62 #[.pointer (some ⟨h.s, 0, none⟩), .int .i64 x] (w1.setCell ⟨h.d, x.toNat, none⟩ (.int .i64 a)) fun e w' => e = .returned (.tuple #[]) ∧
            SwPost w0 h G a (tot + 4) (aroundM h.W h.H h.C (D.set x.toNat a) x (a + at0 h.C x) ⟨z.len - 1, upd z.q (a % 256).toNat xs⟩) todo (D.set x.toNat a) w') := fun w1 S1 =>
          around_p (S1.setDist hGd x a) x t.w0 t.w1 t.h0 t.h1 t.len t.le x0 x1 (by rw [List.length_set]; omega) (by omega) (by omega) j4 (by omega) (by omega) (by show 0 ≤ z.len - 1; omega) (by show z.len - 1 < _; omega) (by omega)
        have I2 := SInv.around t.bytes x0 x1 j4 j3 x2 ⟨by omega, cx1⟩ (nb h.W h.H x) _ (fun l hl => ⟨hl, nb_in t x l x0 x1 hl⟩) j1
        rw [← aroundM_nb] at I2
        have z2 : (aroundM h.W h.H h.C (D.set x.toNat a) x (a + at0 h.C x) ⟨z.len - 1, upd z.q (a % 256).toNat xs⟩).len ≤ z.len - 1 + 4 := by
          have r := fun l z => (reachM_len h.C (D.set x.toNat a) l (a + at0 h.C x) z)
          unfold aroundM
          by_cases c1 : 0 < x / h.W <;> by_cases c2 : x % h.W < h.W - 1 <;> by_cases c3 : x / h.W < h.H - 1 <;> by_cases c4 : 0 < x % h.W <;> simp only [c1, c2, c3, c4, if_true, if_false] <;> grind
        have HF : Hid (∀ w1, SwPost w0 h G a (tot + 4) (aroundM h.W h.H h.C (D.set x.toNat a) x (a + at0 h.C x) ⟨z.len - 1, upd z.q (a % 256).toNat xs⟩) todo (D.set x.toNat a) w1 → ∃ k', k' < gk ∧ Calls Try.prog 59 #[.pointer (some ⟨h.s, 0, none⟩)] w1 fun e w' => e = .returned (.tuple #[]) ∧ RunRel w0 h G SS T k' w') := by
          intro w1 S1
          have z3 : 0 ≤ (aroundM h.W h.H h.C (D.set x.toNat a) x (a + at0 h.C x) ⟨z.len - 1, upd z.q (a % 256).toNat xs⟩).len := by rw [I2.cnt]; omega
          refine ⟨(5 * unset (D.set x.toNat a) + (aroundM h.W h.H h.C (D.set x.toNat a) x (a + at0 h.C x) ⟨z.len - 1, upd z.q (a % 256).toNat xs⟩).len + todo.length).toNat, by omega, fill_p t hS hG S1 I2 _ (by omega) (by omega) hT2 (by omega)⟩
        have HC : Hid (∀ w1, SwPost w0 h G a tot ⟨z.len - 1, upd z.q (a % 256).toNat xs⟩ todo D w1 → w1.cell? ⟨h.s, 5, none⟩ = some (.slice (some ⟨h.d, 0, none⟩) D.length h.dcap) ∧ w1.cell? ⟨h.d, x.toNat, none⟩ = some (.int .i64 1099511627776) ∧ w1.frozen? ⟨h.d, x.toNat, none⟩ = false) := fun w1 S1 => by
          obtain ⟨e1, e2⟩ := S1.dc x x0 hx1
          rw [hd] at e1
          exact ⟨S1.c5.2, e1, e2⟩
        clear S I hH hk htot hub ha0 ha1 hz f0 f1 hq hmin j1 j2 j3 j4 cx0 cx1 I2 z2 x3 x4 hd hDl
        go_wp2_with (go_at_call 60; refine (HL.out).mono ?_; rintro e w' ⟨rfl, rfl⟩)
        refine (HP.out).mono ?_
        rintro e w1 ⟨rfl, S1⟩
        obtain ⟨d5, dd, df⟩ := HC.out _ S1
        have HA1 := Lib.hid (HA.out _ S1)
        clear S1 HA HC HP HL c3 c5
        go_wp2_with fail
        refine (HA1.out).mono ?_
        rintro e w2 ⟨rfl, S2⟩
        obtain ⟨k', hk', hF2⟩ := HF.out _ S2
        have HF2 := Lib.hid hF2
        clear S2 hF2 HF HA1 d5 dd df
        go_wp2_with fail
        refine (HF2.out).mono ?_
        rintro e w3 ⟨rfl, R3⟩
        clear HF2
        go_wp2
        go_roundg k'
        case measure => exact hk'
        case rel => exact R3
      · have I2 := I.pop_old hH.1 f0 f1 hq hmin hd
        have HF : Hid (∀ w1, SwPost w0 h G a tot ⟨z.len - 1, upd z.q (a % 256).toNat xs⟩ todo D w1 → ∃ k', k' < gk ∧ Calls Try.prog 59 #[.pointer (some ⟨h.s, 0, none⟩)] w1 fun e w' => e = .returned (.tuple #[]) ∧ RunRel w0 h G SS T k' w') := by
          intro w1 S1
          refine ⟨(5 * unset D + (z.len - 1) + todo.length).toNat, by omega, fill_p t hS hG S1 I2 _ (by show _ = 5 * _ + (z.len - 1) + _; omega) (by omega) hT2 (by omega)⟩
        have HC : Hid (∀ w1, SwPost w0 h G a tot ⟨z.len - 1, upd z.q (a % 256).toNat xs⟩ todo D w1 → w1.cell? ⟨h.s, 5, none⟩ = some (.slice (some ⟨h.d, 0, none⟩) D.length h.dcap) ∧ w1.cell? ⟨h.d, x.toNat, none⟩ = some (.int .i64 (at0 D x))) := fun w1 S1 =>
          ⟨S1.c5.2, (S1.dc x x0 hx1).1⟩
        have g1 : (at0 D x == 1099511627776) = false := by simpa [inf] using hd
        clear S I hH hk htot hub ha0 ha1 hz f0 f1 hq hmin I2 x3 x4 hd hDl
        generalize at0 D x = dx at HC g1
        go_wp2_with (go_at_call 60; refine (HL.out).mono ?_; rintro e w' ⟨rfl, rfl⟩)
        refine (HP.out).mono ?_
        rintro e w1 ⟨rfl, S1⟩
        obtain ⟨d5, dd⟩ := HC.out _ S1
        obtain ⟨k', hk', hF2⟩ := HF.out _ S1
        have HF2 := Lib.hid hF2
        clear S1 hF2 HF HC HP HL c3 c5
        go_wp2_with fail
        refine (HF2.out).mono ?_
        rintro e w3 ⟨rfl, R3⟩
        clear HF2
        go_wp2
        go_roundg k'
        case measure => exact hk'
        case rel => exact R3
end Swp
end Go.Proofs.Ytjnjppikhdfomaa

namespace Go.Proofs.Ytjnjppikhdfomaa
open Go Go.RowKit Go.Proofs B Rng
namespace Swp

/-- New blocks alone. -/
def Nw (w w' : World) : Prop := Fr (fun _ => False) w w'
theorem Nw.refl (w : World) : Nw w w := Fr.refl _ _
theorem Nw.alloc (w : World) (o : Obj) : Nw w (w.alloc o) := (Fr.refl _ w).alloc o
theorem Nw.trans {a b c : World} (h : Nw a b) (k : Nw b c) : Nw a c := Fr.trans h k (fun _ _ h => h)
theorem Nw.drewN (w : World) (n : Nat) : Nw w (w.drewN n) := (Fr.refl _ w).drewN n
theorem Nw.cell {w w' : World} (h : Nw w w') {a : Addr} {v : Value} (hc : w.cell? a = some v) : w'.cell? a = some v := (Fr.cell h (World.block_lt_of_cell? w a hc) (fun h => h)).trans hc

/-- A slice of numbers of one kind, as it is read. -/
def RdN (w : World) (k : IntKind) (A : Option Addr) (C : List Int) : Prop := ∀ x l, C = x :: l → ∃ b o, A = some ⟨b, o, none⟩ ∧ ∀ j y, C[j]? = some y → w.cell? ⟨b, o + j, none⟩ = some (.int k y)
theorem RdN.nw {w w' : World} {k : IntKind} {A : Option Addr} {C : List Int} (h : RdN w k A C) (hn : Nw w w') : RdN w' k A C := fun x l e => by
  obtain ⟨b, o, ha, hc⟩ := h x l e
  exact ⟨b, o, ha, fun j y hy => hn.cell (hc j y hy)⟩
/-- A slice of seeds, as it is read. -/
def RdS (w : World) (A : Option Addr) (l : List Sd) : Prop := ∀ s l', l = s :: l' → ∃ b o, A = some ⟨b, o, none⟩ ∧ ∀ j x, l[j]? = some x → w.cell? ⟨b, o + j * 3, none⟩ = some (.int .i64 x.cell) ∧ w.cell? ⟨b, o + j * 3 + 1, none⟩ = some (.int .i64 x.side) ∧ w.cell? ⟨b, o + j * 3 + 2, none⟩ = some (.int .i64 x.key)
theorem RdS.nw {w w' : World} {A : Option Addr} {l : List Sd} (h : RdS w A l) (hn : Nw w w') : RdS w' A l := fun s l' e => by
  obtain ⟨b, o, ha, hc⟩ := h s l' e
  exact ⟨b, o, ha, fun j y hy => ⟨hn.cell (hc j y hy).1, hn.cell (hc j y hy).2.1, hn.cell (hc j y hy).2.2⟩⟩

def sizedB (n : Int) : Bool := decide (1 ≤ n) && decide (n ≤ 16)

set_option maxHeartbeats 400000 in
theorem sized_any (n : Int) (w : World) : Calls Try.prog 75 #[.int .i64 n] w fun e w' => e = .returned (.bool (sizedB n)) ∧ w = w' := by
  unfold sizedB
  by_cases h : 1 ≤ n
  · have h1 : decide (1 ≤ n) = true := by simpa using h
    rw [h1, Bool.true_and]
    go_enter Try.func75, Try.ntmps75
    go_wp2
    go_ret
    exact ⟨rfl, rfl⟩
  · have h1 : decide (1 ≤ n) = false := by simpa using h
    rw [h1, Bool.false_and]
    go_enter Try.func75, Try.ntmps75
    go_wp2
    go_ret
    exact ⟨rfl, rfl⟩

def IdxPost (C : List Int) (v : Int) (w : World) (e : Ending) (w' : World) : Prop := ∃ r : Int, e = .returned (.int .i64 r) ∧ (0 ≤ r ↔ v ∈ C) ∧ w = w'

set_option maxHeartbeats 1000000 in
theorem index_b (A : Option Addr) (C : List Int) (cap : Nat) (v : Int) (w : World) (h : RdN w .u8 A C) (hl : C.length ≤ 140737488351232) :
    Calls Try.prog 93 #[.slice A C.length cap, .int .u8 v] w (IdxPost C v w) := by
  have H := Lib.hid h
  clear h
  go_enter Try.func93, Try.ntmps93
  go_wp2
  go_loopg [8] C.length (fun g i wr => wr = w ∧ ∃ k : Nat, k ≤ C.length ∧ g + k = C.length ∧ i = .int .i64 k ∧ Hid (∀ j, j < k → C[j]? ≠ some v))
  case atStart => exact ⟨rfl, 0, Nat.zero_le _, by omega, rfl, fun j hj => by omega⟩
  case round =>
    obtain ⟨rfl, k, hk, hg, rfl, hno⟩ := hrel
    by_cases hlt : k < C.length
    · match hC : C, hlt with
      | x :: l, hlt =>
        obtain ⟨b, o, rfl, hc⟩ := H.out x l rfl
        have hy := getD_some (l := x :: l) (0 : Int) hlt
        have hcell := hc k _ hy
        generalize hyy : (x :: l).getD k 0 = y at hy hcell
        have HY := Lib.hid hy
        clear hc hy hyy hC
        generalize hn : (x :: l).length = n at *
        have i1 : (k : Int) < n := by omega
        by_cases hv : v = y
        · have t1 : (v == y) = true := by simpa using hv
          have HP : Hid (IdxPost (x :: l) v wr (.returned (.int .i64 k)) wr) := ⟨k, rfl, ⟨fun _ => by rw [hv]; exact List.mem_of_getElem? HY.out, fun _ => by omega⟩, rfl⟩
          clear hv HY hno
          go_wp2
          go_ret
          exact HP.out
        · have t1 : (v == y) = false := by simpa using hv
          have HN : Hid (∀ j, j < k + 1 → (x :: l)[j]? ≠ some v) := fun j hj => by
            by_cases e : j = k
            · subst e; rw [HY.out]; intro e; injection e with e; exact hv e.symm
            · exact hno.out j (by omega)
          clear hv HY hno
          go_wp2
          go_roundg (gk - 1)
          case measure => omega
          case rel => exact ⟨rfl, k + 1, by omega, by omega, by go_num, HN⟩
    · have HP : Hid (IdxPost C v wr (.returned (.int .i64 (-1))) wr) := ⟨-1, rfl, ⟨fun h => by omega, fun hm => by
        obtain ⟨j, hj, he⟩ := List.getElem_of_mem hm
        exact absurd (by rw [List.getElem?_eq_getElem hj, he]) (hno.out j (by omega))⟩, rfl⟩
      clear hno
      generalize C.length = n at *
      go_wp2
      go_ret
      exact HP.out

set_option maxHeartbeats 400000 in
theorem contains_b (A : Option Addr) (C : List Int) (cap : Nat) (v : Int) (w : World) (h : RdN w .u8 A C) (hl : C.length ≤ 140737488351232) :
    Calls Try.prog 76 #[.slice A C.length cap, .int .u8 v] w fun e w' => e = .returned (.bool (decide (v ∈ C))) ∧ w = w' := by
  have HI := Lib.hid (index_b A C cap v w h hl)
  generalize hn : C.length = n at HI
  clear h hl hn
  generalize hb : decide (v ∈ C) = b
  have HB : Hid (∀ r : Int, (0 ≤ r ↔ v ∈ C) → decide (0 ≤ r) = b) := fun r hr => by rw [← hb]; simp [hr]
  clear hb
  go_enter Try.func76, Try.ntmps76
  go_wp2_with fail
  refine (HI.out).mono ?_
  rintro e w' ⟨r, rfl, hr, rfl⟩
  have hb := HB.out r hr
  clear hr HB HI
  go_wp2
  go_ret
  exact ⟨rfl, rfl⟩

end Swp
end Go.Proofs.Ytjnjppikhdfomaa

namespace Go.Proofs.Ytjnjppikhdfomaa
open Go Go.RowKit Go.Proofs B Rng
namespace Swp

def mayB (W H : Int) (C : List Int) : Bool := sizedB W && (sizedB H && (decide ((C.length : Int) = W * H) && !decide (0 ∈ C)))

theorem mayB_ok {W H : Int} {C : List Int} (hb : ∀ b ∈ C, 0 ≤ b ∧ b ≤ 255) (h : mayB W H C = true) : TileOK W H C := by
  simp [mayB, sizedB] at h
  obtain ⟨h1, h2, h3, h4⟩ := h
  refine ⟨by omega, h1.2, by omega, h2.2, h3, fun b hm => ?_⟩
  have := hb b hm
  have : b ≠ 0 := fun e => h4 (e ▸ hm)
  omega

/-- A tile's three cells. -/
def tileV (W H : Int) (A : Option Addr) (n cap : Nat) : List Value := [.int .i64 W, .int .i64 H, .slice A n cap]

set_option maxHeartbeats 2000000 in
theorem tmay_any (W H : Int) (A : Option Addr) (C : List Int) (cap : Nat) (w : World) (h : RdN w .u8 A C) (hl : C.length ≤ 140737488351232) :
    Calls Try.prog 51 #[.agg #[.int .i64 W, .int .i64 H, .slice A C.length cap]] w fun e w' => e = .returned (.bool (mayB W H C)) ∧ Nw w w' := by
  have HC := Lib.hid (contains_b A C cap 0 (w.alloc (.cells #[.int .i64 W, .int .i64 H, .slice A C.length cap] 24)) (h.nw (Nw.alloc _ _)) hl)
  have HA := Lib.hid (Nw.alloc w (.cells #[.int .i64 W, .int .i64 H, .slice A C.length cap] 24))
  clear h
  by_cases h1 : sizedB W = true
  case neg =>
    have e : mayB W H C = false := by simp [mayB, h1]
    rw [e]
    have h1' : sizedB W = false := by simpa using h1
    generalize C.length = n at *
    go_enter Try.func51, Try.ntmps51
    go_wp2_with (go_at_call 75; refine (sized_any _ _).mono ?_; rintro e w' ⟨rfl, rfl⟩)
    go_ret
    exact ⟨rfl, HA.out⟩
  case pos =>
  by_cases h2 : sizedB H = true
  case neg =>
    have e : mayB W H C = false := by simp [mayB, h2]
    rw [e]
    have h2' : sizedB H = false := by simpa using h2
    generalize C.length = n at *
    go_enter Try.func51, Try.ntmps51
    go_wp2_with (go_at_call 75; refine (sized_any _ _).mono ?_; rintro e w' ⟨rfl, rfl⟩)
    go_ret
    exact ⟨rfl, HA.out⟩
  case pos =>
  have hW : 1 ≤ W ∧ W ≤ 16 := by simpa [sizedB] using h1
  have hH : 1 ≤ H ∧ H ≤ 16 := by simpa [sizedB] using h2
  obtain ⟨w1, w2⟩ := hW
  obtain ⟨g1, g2⟩ := hH
  have m0 : W * H ≤ 16 * 16 := Int.mul_le_mul w2 g2 (by omega) (by omega)
  have m1 : 0 ≤ W * H := Int.mul_nonneg (by omega) (by omega)
  have mw : wrap64 (W * H) = W * H := by unfold wrap64; omega
  by_cases h3 : (C.length : Int) = W * H
  case neg =>
    have e : mayB W H C = false := by simp [mayB, h3]
    rw [e]
    have h3' : ((C.length : Int) == W * H) = false := by simpa using h3
    clear h3 m0 m1
    generalize C.length = n at *
    go_enter Try.func51, Try.ntmps51
    go_wp2_with (go_at_call 75; refine (sized_any _ _).mono ?_; rintro e w' ⟨rfl, rfl⟩)
    go_ret
    exact ⟨rfl, HA.out⟩
  case pos =>
    have e : mayB W H C = !decide (0 ∈ C) := by simp [mayB, h1, h2, h3]
    rw [e]
    have h3' : ((C.length : Int) == W * H) = true := by simpa using h3
    clear h3 m0 m1 e
    generalize C.length = n at *
    generalize decide ((0 : Int) ∈ C) = b at *
    go_enter Try.func51, Try.ntmps51
    go_wp2_with (first | (go_at_call 75; refine (sized_any _ _).mono ?_; rintro e w' ⟨rfl, rfl⟩) | (go_at_call 76; refine (HC.out).mono ?_; rintro e w' ⟨rfl, rfl⟩))
    go_ret
    exact ⟨rfl, HA.out⟩

def outB (W H cell side : Int) : Bool :=
  if side = 0 then (cell / W == 0) else if side = 1 then (cell % W == W - 1) else if side = 2 then (cell / W == H - 1) else if side = 3 then (cell % W == 0) else (side == 4)

set_option maxHeartbeats 2000000 in
theorem out_any (W H cell side : Int) (A : Option Addr) (n cap : Nat) (w : World) (w1 : 1 ≤ W) (w2 : W ≤ 16) (g1 : 1 ≤ H) (g2 : H ≤ 16) (c0 : 0 ≤ cell) (c1 : cell ≤ 256) :
    Calls Try.prog 54 #[.agg #[.int .i64 W, .int .i64 H, .slice A n cap], .int .i64 cell, .int .i64 side] w fun e w' => e = .returned (.bool (outB W H cell side)) ∧ Nw w w' := by
  have HA : Hid (∀ k, Nw w ((w.alloc (.cells #[.int .i64 W, .int .i64 H, .slice A n cap] 24)).drewN k)) := fun k => (Nw.alloc _ _).trans (Nw.drewN _ k)
  have x0 : wrap64 (cell.tdiv W) = cell / W := by
    rw [Int.tdiv_eq_ediv_of_nonneg c0]
    have := Int.ediv_le_self W c0
    have := Int.ediv_nonneg c0 (show 0 ≤ W by omega)
    unfold wrap64; omega
  have x1 : cell.tmod W = cell % W := Int.tmod_eq_emod_of_nonneg c0
  have y0 : 0 ≤ cell / W := Int.ediv_nonneg c0 (by omega)
  have y1 : 0 ≤ cell % W := Int.emod_nonneg _ (by omega)
  have hne : (W == 0) = false := by simp; omega
  generalize hv : outB W H cell side = v
  unfold outB at hv
  have HV := Lib.hid hv
  clear hv
  generalize hy : cell / W = y at *
  generalize hx : cell % W = x at *
  by_cases s0 : side = 0
  · subst s0
    have hv := HV.out; simp only [if_true] at hv; subst hv; clear HV
    go_enter Try.func54, Try.ntmps54
    go_wp2
    go_quiet (fail)
    go_wp2
    go_ret
    exact ⟨rfl, HA.out _⟩
  by_cases s1 : side = 1
  · subst s1
    have hv := HV.out; simp only [if_neg (show ¬ (1 : Int) = 0 by omega), if_true] at hv; subst hv; clear HV s0
    go_enter Try.func54, Try.ntmps54
    go_wp2
    go_quiet (fail)
    go_wp2
    go_ret
    exact ⟨rfl, HA.out _⟩
  by_cases s2 : side = 2
  · subst s2
    have hv := HV.out; simp only [if_neg (show ¬ (2 : Int) = 0 by omega), if_neg (show ¬ (2 : Int) = 1 by omega), if_true] at hv; subst hv; clear HV s0 s1
    go_enter Try.func54, Try.ntmps54
    go_wp2
    go_quiet (fail)
    go_wp2
    go_ret
    exact ⟨rfl, HA.out _⟩
  by_cases s3 : side = 3
  · subst s3
    have hv := HV.out; simp only [if_neg (show ¬ (3 : Int) = 0 by omega), if_neg (show ¬ (3 : Int) = 1 by omega), if_neg (show ¬ (3 : Int) = 2 by omega), if_true] at hv; subst hv; clear HV s0 s1 s2
    go_enter Try.func54, Try.ntmps54
    go_wp2
    go_quiet (fail)
    go_wp2
    go_ret
    exact ⟨rfl, HA.out _⟩
  · have hv := HV.out; simp only [if_neg s0, if_neg s1, if_neg s2, if_neg s3] at hv; subst hv; clear HV
    have t0 : (side == 0) = false := by simpa using s0
    have t1 : (side == 1) = false := by simpa using s1
    have t2 : (side == 2) = false := by simpa using s2
    have t3 : (side == 3) = false := by simpa using s3
    clear s0 s1 s2 s3
    go_enter Try.func54, Try.ntmps54
    go_wp2
    go_quiet (fail)
    go_wp2
    go_ret
    exact ⟨rfl, HA.out _⟩
end Swp
end Go.Proofs.Ytjnjppikhdfomaa

namespace Go.Proofs.Ytjnjppikhdfomaa
open Go Go.RowKit Go.Proofs B Rng
namespace Swp

def badB (W H : Int) (C : List Int) (s : Sd) : Bool :=
  decide (s.cell < 0) || (decide ((C.length : Int) ≤ s.cell) || (at0 C s.cell == 255 || (decide (s.key < 0) || (decide (1073741824 < s.key) || !outB W H s.cell s.side))))

/-- Where the closure's tile lies. -/
structure TBox (w : World) (T : Nat) (W H : Int) (A : Option Addr) (C : List Int) (cap : Nat) : Prop where
  c0 : w.cell? ⟨T, 0, none⟩ = some (.int .i64 W)
  c1 : w.cell? ⟨T, 1, none⟩ = some (.int .i64 H)
  c2 : w.cell? ⟨T, 2, none⟩ = some (.slice A C.length cap)
  rd : RdN w .u8 A C
theorem TBox.nw {w w' : World} {T : Nat} {W H : Int} {A : Option Addr} {C : List Int} {cap : Nat} (h : TBox w T W H A C cap) (hn : Nw w w') : TBox w' T W H A C cap :=
  ⟨hn.cell h.c0, hn.cell h.c1, hn.cell h.c2, h.rd.nw hn⟩

theorem RdN.at {w : World} {k : IntKind} {A : Option Addr} {C : List Int} (h : RdN w k A C) {j : Nat} (hj : j < C.length) : ∃ b o, A = some ⟨b, o, none⟩ ∧ w.cell? ⟨b, o + j, none⟩ = some (.int k (C.getD j 0)) := by
  cases C with
  | nil => simp at hj
  | cons x l =>
    obtain ⟨b, o, ha, hc⟩ := h x l rfl
    exact ⟨b, o, ha, hc _ _ (getD_some 0 hj)⟩

set_option maxHeartbeats 4000000 in
theorem bad_any (s : Sd) (T : Nat) (W H : Int) (A : Option Addr) (C : List Int) (cap : Nat) (w : World) (hT : TBox w T W H A C cap) (t : TileOK W H C) :
    Calls Try.prog 53 #[.agg #[.int .i64 s.cell, .int .i64 s.side, .int .i64 s.key], .pointer (some ⟨T, 0, none⟩)] w fun e w' => e = .returned (.bool (badB W H C s)) ∧ Nw w w' := by
  obtain ⟨cell, side, key⟩ := s
  have hN := Nw.alloc w (.cells #[.int .i64 cell, .int .i64 side, .int .i64 key] 52)
  have hT' := hT.nw hN
  have d0 := hT'.c0
  have d1 := hT'.c1
  have d2 := hT'.c2
  have hrd := hT'.rd
  have hC := t.le
  have t0 := t.w0
  have t1 := t.w1
  have t2 := t.h0
  have t3 := t.h1
  have HN := Lib.hid hN
  clear hT hT' hN
  by_cases h1 : cell < 0
  · have e : badB W H C ⟨cell, side, key⟩ = true := by simp [badB, h1]
    rw [e]
    clear e hrd t
    generalize C.length = n at *
    go_enter Try.func53, Try.ntmps53
    go_wp2
    go_ret
    exact ⟨rfl, HN.out⟩
  by_cases h2 : (C.length : Int) ≤ cell
  · have e : badB W H C ⟨cell, side, key⟩ = true := by simp [badB, h2]
    rw [e]
    clear e hrd t
    generalize C.length = n at *
    go_enter Try.func53, Try.ntmps53
    go_wp2
    go_ret
    exact ⟨rfl, HN.out⟩
  have hlt : cell.toNat < C.length := by omega
  have hcell := hrd.at hlt
  obtain ⟨b, o, rfl, dc⟩ := hcell
  change _ = some (Value.int .u8 (at0 C cell)) at dc
  have i1 : cell < (C.length : Int) := by omega
  clear hrd hlt t
  by_cases h3 : at0 C cell = 255
  · have e : badB W H C ⟨cell, side, key⟩ = true := by simp [badB, h3]
    rw [e]
    have h3' : (at0 C cell == 255) = true := by simpa using h3
    clear e h3
    generalize at0 C cell = cc at *
    generalize C.length = n at *
    go_enter Try.func53, Try.ntmps53
    go_wp2
    go_ret
    exact ⟨rfl, HN.out⟩
  have h3' : (at0 C cell == 255) = false := by simpa using h3
  by_cases h4 : key < 0
  · have e : badB W H C ⟨cell, side, key⟩ = true := by simp [badB, h4]
    rw [e]
    clear e h3
    generalize at0 C cell = cc at *
    generalize C.length = n at *
    go_enter Try.func53, Try.ntmps53
    go_wp2
    go_ret
    exact ⟨rfl, HN.out⟩
  by_cases h5 : 1073741824 < key
  · have e : badB W H C ⟨cell, side, key⟩ = true := by simp [badB, h5]
    rw [e]
    clear e h3
    generalize at0 C cell = cc at *
    generalize C.length = n at *
    go_enter Try.func53, Try.ntmps53
    go_wp2
    go_ret
    exact ⟨rfl, HN.out⟩
  · have e : badB W H C ⟨cell, side, key⟩ = !outB W H cell side := by
      have a1 : decide (cell < 0) = false := by simpa using h1
      have a2 : decide ((C.length : Int) ≤ cell) = false := by simpa using h2
      have a4 : decide (key < 0) = false := by simpa using h4
      have a5 : decide (1073741824 < key) = false := by simpa using h5
      unfold badB
      simp only [a1, a2, h3', a4, a5, Bool.false_or]
    rw [e]
    have HO := Lib.hid (out_any W H cell side (some ⟨b, o, none⟩) C.length cap (w.alloc (.cells #[.int .i64 cell, .int .i64 side, .int .i64 key] 52)) (by omega) t1 (by omega) t3 (by omega) (by omega))
    clear e h3
    generalize outB W H cell side = ob at *
    generalize at0 C cell = cc at *
    generalize C.length = n at *
    go_enter Try.func53, Try.ntmps53
    go_wp2_with (go_at_call 54; refine (HO.out).mono ?_; rintro e w' ⟨rfl, hn⟩)
    go_ret
    exact ⟨rfl, HN.out.trans hn⟩

def FIdx (l : List Sd) (p : Sd → Bool) (w : World) (e : Ending) (w' : World) : Prop := ∃ r : Int, e = .returned (.int .i64 r) ∧ (0 ≤ r ↔ l.any p = true) ∧ Nw w w'

theorem any_upto {l : List Sd} {p : Sd → Bool} {k : Nat} (h : ∀ j x, j < k → l[j]? = some x → p x = false) (hk : l.length ≤ k) : l.any p = false := by
  rw [List.any_eq_false]
  intro x hx
  obtain ⟨j, hj, he⟩ := List.getElem_of_mem hx
  have := h j x (by omega) (by rw [List.getElem?_eq_getElem hj, he])
  simp [this]

set_option maxHeartbeats 4000000 in
theorem fidx_any (A : Option Addr) (l : List Sd) (cap : Nat) (T : Nat) (W H : Int) (At : Option Addr) (C : List Int) (tcap : Nat) (w : World) (hl : RdS w A l) (hT : TBox w T W H At C tcap) (t : TileOK W H C) (hlen : l.length ≤ 140737488351232) :
    Calls Try.prog 77 #[.slice A l.length cap, .func (.func 53) #[] #[.pointer (some ⟨T, 0, none⟩)]] w (FIdx l (badB W H C) w) := by
  have HL := Lib.hid hl
  have HT := Lib.hid hT
  have HTt := Lib.hid t
  clear hl hT t
  go_enter Try.func77, Try.ntmps77
  go_wp2
  go_loopg [8] l.length (fun g i wr => Hid (Nw w wr) ∧ ∃ k : Nat, k ≤ l.length ∧ g + k = l.length ∧ i = .int .i64 k ∧ Hid (∀ j x, j < k → l[j]? = some x → badB W H C x = false))
  case atStart => exact ⟨Nw.refl _, 0, Nat.zero_le _, by omega, rfl, fun j x hj => by omega⟩
  case round =>
    obtain ⟨hn, k, hk, hg, rfl, hno⟩ := hrel
    by_cases hlt : k < l.length
    · match hC : l, hlt with
      | x :: l', hlt =>
        obtain ⟨b, o, rfl, hc⟩ := (HL.out.nw hn.out) x l' rfl
        have hy : (x :: l')[k]? = some ((x :: l')[k]) := List.getElem?_eq_getElem hlt
        obtain ⟨q0, q1, q2⟩ := hc k _ hy
        generalize hyy : (x :: l')[k] = y at hy q0 q1 q2
        have HY := Lib.hid hy
        have HB := Lib.hid (bad_any y T W H At C tcap wr (HT.out.nw hn.out) HTt.out)
        clear hc hy hyy hC
        generalize hn' : (x :: l').length = n at *
        have i1 : (k : Int) < n := by omega
        generalize hbb : badB W H C y = bb at HB
        have HBB := Lib.hid hbb
        clear hbb
        cases bb with
        | true =>
          have HP : Hid (∀ w', Nw wr w' → FIdx (x :: l') (badB W H C) w (.returned (.int .i64 k)) w') := fun w' hw => ⟨k, rfl, ⟨fun _ => List.any_eq_true.2 ⟨y, List.mem_of_getElem? HY.out, HBB.out⟩, fun _ => by omega⟩, hn.out.trans hw⟩
          clear HY hno HBB
          go_wp2_with (go_at_call 53; refine (HB.out).mono ?_; rintro e w' ⟨rfl, hw⟩)
          go_ret
          exact HP.out _ hw
        | false =>
          have HN : Hid (∀ j z, j < k + 1 → (x :: l')[j]? = some z → badB W H C z = false) := fun j z hj hz => by
            by_cases e : j = k
            · subst e; rw [HY.out] at hz; injection hz with hz; subst hz; exact HBB.out
            · exact hno.out j z (by omega) hz
          clear HY hno HBB
          go_wp2_with (go_at_call 53; refine (HB.out).mono ?_; rintro e w' ⟨rfl, hw⟩)
          go_roundg (gk - 1)
          case measure => omega
          case rel => exact ⟨hn.out.trans hw, k + 1, by omega, by omega, by go_num, HN⟩
    · have HP : Hid (FIdx l (badB W H C) w (.returned (.int .i64 (-1))) wr) := ⟨-1, rfl, ⟨fun h => by omega, fun hm => by
        rw [any_upto hno.out (by omega)] at hm; simp at hm⟩, hn.out⟩
      clear hno
      generalize l.length = n at *
      go_wp2
      go_ret
      exact HP.out

set_option maxHeartbeats 400000 in
theorem cfunc_any (A : Option Addr) (l : List Sd) (cap : Nat) (T : Nat) (W H : Int) (At : Option Addr) (C : List Int) (tcap : Nat) (w : World) (hl : RdS w A l) (hT : TBox w T W H At C tcap) (t : TileOK W H C) (hlen : l.length ≤ 140737488351232) :
    Calls Try.prog 52 #[.slice A l.length cap, .func (.func 53) #[] #[.pointer (some ⟨T, 0, none⟩)]] w fun e w' => e = .returned (.bool (l.any (badB W H C))) ∧ Nw w w' := by
  have HI := Lib.hid (fidx_any A l cap T W H At C tcap w hl hT t hlen)
  generalize hn : l.length = n at HI
  clear hl hlen hn hT t
  generalize hb : l.any (badB W H C) = b
  have HB : Hid (∀ r : Int, (0 ≤ r ↔ l.any (badB W H C) = true) → decide (0 ≤ r) = b) := fun r hr => by
    rw [← hb, Bool.eq_iff_iff, decide_eq_true_iff]; exact hr
  clear hb
  go_enter Try.func52, Try.ntmps52
  go_wp2_with fail
  refine (HI.out).mono ?_
  rintro e w' ⟨r, rfl, hr, hw⟩
  have hb := HB.out r hr
  clear hr HB HI
  go_wp2
  go_ret
  exact ⟨rfl, hw⟩

def smayB (W H : Int) (C : List Int) (l : List Sd) : Bool := mayB W H C && !l.any (badB W H C)

set_option maxHeartbeats 1000000 in
theorem smay_any (W H : Int) (A : Option Addr) (C : List Int) (cap : Nat) (As : Option Addr) (l : List Sd) (scap : Nat) (w : World) (h : RdN w .u8 A C) (hl : C.length ≤ 140737488351232) (hb : ∀ b ∈ C, 0 ≤ b ∧ b ≤ 255) (hs : RdS w As l) (hsl : l.length ≤ 140737488351232) :
    Calls Try.prog 28 #[.agg #[.int .i64 W, .int .i64 H, .slice A C.length cap], .slice As l.length scap] w fun e w' => e = .returned (.bool (smayB W H C l)) ∧ Nw w w' := by
  have hN := Nw.alloc w (.cells #[.int .i64 W, .int .i64 H, .slice A C.length cap] 24)
  have HT := Lib.hid (tmay_any W H A C cap _ (h.nw hN) hl)
  have HN := Lib.hid hN
  have hbox : TBox (w.alloc (.cells #[.int .i64 W, .int .i64 H, .slice A C.length cap] 24)) w.heap.size W H A C cap := by
    have r := Row.new w #[.int .i64 W, .int .i64 H, .slice A C.length cap] 24
    exact ⟨by rw [r.cell]; rfl, by rw [r.cell]; rfl, by rw [r.cell]; rfl, h.nw hN⟩
  have HC : Hid (mayB W H C = true → ∀ w1, Nw (w.alloc (.cells #[.int .i64 W, .int .i64 H, .slice A C.length cap] 24)) w1 → Calls Try.prog 52 #[.slice As l.length scap, .func (.func 53) #[] #[.pointer (some ⟨w.heap.size, 0, none⟩)]] w1 fun e w' => e = .returned (.bool (l.any (badB W H C))) ∧ Nw w1 w') :=
    fun hm w1 hw => cfunc_any As l scap w.heap.size W H A C cap w1 (hs.nw (hN.trans hw)) (hbox.nw hw) (mayB_ok hb hm) hsl
  clear h hs hbox hN
  unfold smayB
  by_cases hm : mayB W H C = true
  · have HC' := Lib.hid (HC.out hm)
    rw [hm] at HT ⊢
    rw [Bool.true_and]
    generalize l.any (badB W H C) = bb at *
    generalize C.length = n at *
    generalize l.length = m at *
    clear HC hm
    go_enter Try.func28, Try.ntmps28
    go_wp2_with (go_at_call 51; refine (HT.out).mono ?_; rintro e w1 ⟨rfl, hw1⟩)
    refine (HC'.out _ hw1).mono ?_
    rintro e w2 ⟨rfl, hw2⟩
    go_wp2
    go_ret
    exact ⟨rfl, (HN.out.trans hw1).trans hw2⟩
  · have hm' : mayB W H C = false := by simpa using hm
    rw [hm'] at HT ⊢
    rw [Bool.false_and]
    generalize C.length = n at *
    generalize l.length = m at *
    clear HC hm
    go_enter Try.func28, Try.ntmps28
    go_wp2_with (go_at_call 51; refine (HT.out).mono ?_; rintro e w1 ⟨rfl, hw1⟩)
    go_ret
    exact ⟨rfl, HN.out.trans hw1⟩
end Swp
end Go.Proofs.Ytjnjppikhdfomaa
