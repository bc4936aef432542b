import Derived.Test.YtjnjppikhdfomaaM7
import Derived.BigRegion
set_option linter.unusedVariables false
set_option linter.unusedSimpArgs false

namespace Go.Proofs.Ytjnjppikhdfomaa
open Go Go.RowKit Go.Proofs B Rng
namespace Stb
open Swp Ref

/-- What is being sorted, by whose distances. -/
structure SAt (W0 w : World) (ob L cap : Nat) (X : List Int) (pb g n c : Nat) (D : List Int) : Prop where
  nw : Nw W0 w
  own : Own w 3 1 (.slice (some ⟨ob, 0, none⟩) L cap) L (X.map (Value.int .i64))
  new : W0.heap.size ≤ ob
  cp : w.cell? ⟨pb, 0, none⟩ = some (.slice (some ⟨g, 0, none⟩) n c)
  dist : ∀ x : Int, 0 ≤ x → x < n → w.cell? ⟨g, x.toNat, none⟩ = some (.int .i64 (at0 D x))
  ne1 : pb ≠ ob
  ne2 : g ≠ ob
  rng : ∀ x ∈ X, 0 ≤ x ∧ x < n

section
variable {W0 w : World} {ob L cap : Nat} {X : List Int} {pb g n c : Nat} {D : List Int}
theorem SAt.len (h : SAt W0 w ob L cap X pb g n c D) : X.length = L := by have := h.own.length; simpa using this
theorem SAt.drewN (h : SAt W0 w ob L cap X pb g n c D) (q : Nat) : SAt W0 (w.drewN q) ob L cap X pb g n c D := { nw := Fr.drewN h.nw q, own := h.own, new := h.new, cp := h.cp, dist := h.dist, ne1 := h.ne1, ne2 := h.ne2, rng := h.rng }
theorem SAt.cell (h : SAt W0 w ob L cap X pb g n c D) {j : Nat} {x : Int} (hx : X[j]? = some x) : w.cell? ⟨ob, j, none⟩ = some (.int .i64 x) ∧ w.frozen? ⟨ob, j, none⟩ = false :=
  ⟨h.own.cells (g := ob) rfl _ _ (by rw [List.getElem?_map, hx]; rfl), h.own.free (g := ob) rfl _⟩
theorem SAt.set (h : SAt W0 w ob L cap X pb g n c D) (j : Nat) (x : Int) (hx : 0 ≤ x ∧ x < n) : SAt W0 (w.setCell ⟨ob, j, none⟩ (.int .i64 x)) ob L cap (X.set j x) pb g n c D := by
  have hf : Fr (fun k => k = ob) w (w.setCell ⟨ob, j, none⟩ (.int .i64 x)) := (Fr.refl (fun k => k = ob) w).setCell (p := ⟨ob, j, none⟩) (fun _ => rfl) _
  have hn := h.new
  refine { nw := Fr.trans h.nw hf (fun k hk e => by omega), own := ?_, new := hn, cp := ?_, dist := fun y h0 h1 => ?_, ne1 := h.ne1, ne2 := h.ne2, rng := fun y hy => ?_ }
  · rw [List.map_set]; exact h.own.set j _
  · exact (hf.cell (p := ⟨pb, 0, none⟩) (World.block_lt_of_cell? w _ h.cp) h.ne1).trans h.cp
  · exact (hf.cell (p := ⟨g, y.toNat, none⟩) (World.block_lt_of_cell? w _ (h.dist y h0 h1)) h.ne2).trans (h.dist y h0 h1)
  · rcases List.mem_or_eq_of_mem_set hy with hy | rfl
    · exact h.rng y hy
    · exact hx
end

set_option maxRecDepth 100000 in
set_option maxHeartbeats 1000000 in
/-- The closure that compares two locals. -/
theorem closure_any (pb g n c : Nat) (D : List Int) (a b : Int) (w : World) (hp : w.cell? ⟨pb, 0, none⟩ = some (.slice (some ⟨g, 0, none⟩) n c)) (ha : w.cell? ⟨g, a.toNat, none⟩ = some (.int .i64 (at0 D a))) (hb : w.cell? ⟨g, b.toNat, none⟩ = some (.int .i64 (at0 D b))) (a0 : 0 ≤ a) (a1 : a < n) (b0 : 0 ≤ b) (b1 : b < n) (hn : n ≤ 1048576) :
    Calls Try.prog 34 #[.int .i64 a, .int .i64 b, .pointer (some ⟨pb, 0, none⟩)] w fun e w' => e = .returned (.int .i64 (cmpI (at0 D a) (at0 D b))) ∧ ∃ q, w' = w.drewN q := by
  have HC := fun x y w => Lib.hid (cmp_any x y w)
  generalize at0 D a = va at *
  generalize at0 D b = vb at *
  go_enter Try.func34, Try.ntmps34
  go_wp2_with fail
  go_quiet ((go_at_call 35; exact Calls.quiet_of_same ((HC _ _ _).out.mono fun e w' h => ⟨h.1, h.2.symm⟩)))
  go_wp2
  go_ret
  exact ⟨rfl, nq, rfl⟩
end Stb
end Go.Proofs.Ytjnjppikhdfomaa

namespace Go.Proofs.Ytjnjppikhdfomaa
open Go Go.RowKit Go.Proofs B Rng
namespace Stb
open Swp Ref

def lexLt (D : List Int) (p q : Int) : Prop := at0 D p < at0 D q ∨ (at0 D p = at0 D q ∧ p < q)
def lexS (D : List Int) (l : List Int) : Prop := l.Pairwise (lexLt D)

theorem cmpI_neg (a b : Int) : cmpI a b < 0 ↔ a < b := by
  rcases cmpI_cases a b with ⟨h, h'⟩ | ⟨h, h'⟩ | ⟨h, h'⟩ <;> rw [h] <;> omega

/-- A moment of the insertion: S, then x, then T. -/
structure InsI (D : List Int) (S : List Int) (x : Int) (T : List Int) : Prop where
  sort : lexS D (S ++ T)
  up : ∀ t ∈ T, at0 D x < at0 D t
  big : ∀ s ∈ S, s < x

theorem InsI.start {D : List Int} {S : List Int} {x : Int} (h : lexS D S) (hb : ∀ s ∈ S, s < x) : InsI D S x [] := ⟨by rw [List.append_nil]; exact h, fun t ht => by simp at ht, hb⟩
theorem InsI.step {D : List Int} {S : List Int} {y x : Int} {T : List Int} (h : InsI D (S ++ [y]) x T) (hlt : at0 D x < at0 D y) : InsI D S x (y :: T) := by
  refine ⟨by have := h.sort; rwa [List.append_assoc] at this, fun t ht => ?_, fun s hs => h.big s (by simp [hs])⟩
  rcases List.mem_cons.1 ht with rfl | ht
  · exact hlt
  · exact h.up t ht
theorem InsI.done {D : List Int} {S : List Int} {x : Int} {T : List Int} (h : InsI D S x T) (he : S = [] ∨ ∃ S' y, S = S' ++ [y] ∧ at0 D y ≤ at0 D x) : lexS D (S ++ x :: T) := by
  have hs := h.sort
  unfold lexS at *
  rw [List.pairwise_append] at hs ⊢
  obtain ⟨h1, h2, h3⟩ := hs
  refine ⟨h1, List.pairwise_cons.2 ⟨fun t ht => .inl (h.up t ht), h2⟩, fun p hp q hq => ?_⟩
  have hpx : lexLt D p x := by
    rcases he with rfl | ⟨S', y, rfl, hy⟩
    · simp at hp
    · have hbig := h.big p hp
      rw [List.pairwise_append] at h1
      rcases List.mem_append.1 hp with hp' | hp'
      · rcases h1.2.2 p hp' y (by simp) with hl | ⟨hl, _⟩
        · left; omega
        · by_cases e : at0 D p < at0 D x
          · left; exact e
          · right; exact ⟨by omega, hbig⟩
      · simp at hp'; subst hp'
        by_cases e : at0 D p < at0 D x
        · left; exact e
        · right; exact ⟨by omega, hbig⟩
  rcases List.mem_cons.1 hq with rfl | hq
  · exact hpx
  · exact h3 p hp q hq
end Stb
end Go.Proofs.Ytjnjppikhdfomaa

namespace Go.Proofs.Ytjnjppikhdfomaa
open Go Go.RowKit Go.Proofs B Rng
namespace Stb
open Swp Ref

theorem mid_at {pre S T : List Int} {x : Int} {j : Nat} (hj : j = pre.length + S.length) : (pre ++ (S ++ x :: T))[j]? = some x := by
  subst hj
  rw [List.getElem?_append_right (by omega), List.getElem?_append_right (by omega)]
  rw [show pre.length + S.length - pre.length - S.length = 0 by omega]; rfl
theorem mid_set {pre S T : List Int} {x y : Int} {j : Nat} (hj : j = pre.length + S.length) : (pre ++ (S ++ x :: T)).set j y = pre ++ (S ++ y :: T) := by
  subst hj
  rw [List.set_append_right _ _ (by omega), List.set_append_right _ _ (by omega)]
  rw [show pre.length + S.length - pre.length - S.length = 0 by omega]; rfl

def SrtPost (W0 : World) (ob L cap : Nat) (pb g n c : Nat) (D : List Int) (pre M post : List Int) (w' : World) : Prop :=
  ∃ M' : List Int, M'.Perm M ∧ lexS D M' ∧ SAt W0 w' ob L cap (pre ++ (M' ++ post)) pb g n c D

set_option maxRecDepth 100000 in
set_option maxHeartbeats 4000000 in
theorem ins_any (W0 w : World) (ob L cap : Nat) (pre M post : List Int) (pb g n c : Nat) (D : List Int) (h : SAt W0 w ob L cap (pre ++ (M ++ post)) pb g n c D) (hup : M.Pairwise (· < ·)) (hL : L ≤ 1048576) (hn : n ≤ 1048576) (a b : Nat) (ha : a = pre.length) (hb : b = pre.length + M.length) (hM : 1 ≤ M.length) :
    Calls Try.prog 88 #[.slice (some ⟨ob, 0, none⟩) L cap, .int .i64 a, .int .i64 b, .func (.func 34) #[] #[.pointer (some ⟨pb, 0, none⟩)]] w fun e w' => e = .returned (.tuple #[]) ∧ SrtPost W0 ob L cap pb g n c D pre M post w' := by
  have hlen := h.len
  have HH := Lib.hid h
  have HA := Lib.hid ha
  have HUP := Lib.hid hup
  have hbL : b ≤ L := by simp at hlen; omega
  have haL : a < b := by omega
  have HBM := Lib.hid hb
  clear h ha hb hlen hup
  generalize hpost : SrtPost W0 ob L cap pb g n c D pre M post = Pst at *
  have HP := Lib.hid hpost
  clear hpost
  go_enter Try.func88, Try.ntmps88
  go_wp2_with fail
  go_loopg [8] (M.length - 1) (fun gh x8 wr => ∃ (Q P R : List Int) (i : Nat), Hid (M = P ++ Q ∧ R.Perm P ∧ lexS D R ∧ SAt W0 wr ob L cap (pre ++ (R ++ (Q ++ post))) pb g n c D) ∧ Hid (i = a + P.length) ∧ gh = Q.length ∧ i + gh = b ∧ x8 = .int .i64 (i : Int))
  case atStart =>
    cases M with
    | nil => simp at hM
    | cons m0 M0 =>
      exact ⟨M0, [m0], [m0], a + 1, ⟨rfl, List.Perm.refl _, List.pairwise_singleton _ _, HH.out⟩, rfl, by simp, by have := HBM.out; have := HA.out; simp at *; omega, by go_num⟩
  case round =>
    clear HH
    obtain ⟨Q, P, R, i, hI, hi, hgh, hib, rfl⟩ := hrel
    cases Q with
    | nil =>
      have hib2 : ¬ (i : Int) < b := by simp at hgh; omega
      have HF : Hid (Pst wr) := by
        rw [← HP.out]
        obtain ⟨h1, h2, h3, h4⟩ := hI.out
        rw [List.append_nil] at h1
        subst h1
        exact ⟨R, h2, h3, h4⟩
      clear hI HP HUP
      go_wp2
      go_end0
      exact ⟨rfl, HF.out⟩
    | cons x Q =>
      have hib2 : (i : Int) < b := by simp at hgh; omega
      obtain ⟨hMe, hRP, hRs, hS⟩ := hI.out
      have hRl : R.length = P.length := hRP.length_eq
      have hbig : ∀ s ∈ R, s < x := fun s hs => by
        have := HUP.out
        rw [hMe, List.pairwise_append] at this
        exact this.2.2 s (hRP.mem_iff.1 hs) x (by simp)
      have HQL : Hid (gk = Q.length + 1) := by rw [hgh]; rfl
      have H0 : Hid (InsI D R x [] ∧ (R ++ ([] : List Int)).Perm P ∧ SAt W0 wr ob L cap (pre ++ (R ++ x :: ([] ++ (Q ++ post)))) pb g n c D ∧ i = a + R.length) := ⟨InsI.start hRs hbig, by rw [List.append_nil]; exact hRP, hS, by rw [hRl]; exact hi.out⟩
      have HME := Lib.hid hMe
      have hiR : Hid (i = a + R.length) := H0.out.2.2.2
      have HUPP := Lib.hid hbig
      clear hI hMe hRP hRs hS hbig hgh hi
      go_wp2_with fail
      go_loopg [9] R.length (fun gh x9 wr => ∃ (S T : List Int) (j : Nat), Hid (InsI D S x T ∧ (S ++ T).Perm P ∧ SAt W0 wr ob L cap (pre ++ (S ++ x :: (T ++ (Q ++ post)))) pb g n c D ∧ j = a + S.length) ∧ gh = S.length ∧ j ≤ i ∧ a ≤ j ∧ x9 = .int .i64 (j : Int))
      case atStart => exact ⟨R, [], i, H0, rfl, Nat.le_refl _, by have := H0.out.2.2.2; omega, rfl⟩
      case round =>
        clear H0
        obtain ⟨S, T, j, hJ, hgS, hji, haj, rfl⟩ := hrel
        obtain ⟨hI, hPm, hS, hj⟩ := hJ.out
        have HNXT : Hid (∀ V, SAt W0 V ob L cap (pre ++ (S ++ x :: (T ++ (Q ++ post)))) pb g n c D → (S = [] ∨ ∃ S' y, S = S' ++ [y] ∧ at0 D y ≤ at0 D x) → M = (P ++ [x]) ++ Q ∧ (S ++ x :: T).Perm (P ++ [x]) ∧ lexS D (S ++ x :: T) ∧ SAt W0 V ob L cap (pre ++ ((S ++ x :: T) ++ (Q ++ post))) pb g n c D) := fun V hV he => by
          refine ⟨by rw [HME.out]; simp, ?_, hI.done he, by simpa using hV⟩
          refine List.perm_middle.trans ?_
          refine (List.Perm.cons x hPm).trans ?_
          exact (List.perm_append_singleton x P).symm
        rcases List.eq_nil_or_concat S with rfl | ⟨S', y, rfl⟩
        · have hja : j = a := by simp at hj; exact hj
          subst hja
          clear hj
          have HN : Hid (∀ q, M = (P ++ [x]) ++ Q ∧ ([] ++ x :: T).Perm (P ++ [x]) ∧ lexS D ([] ++ x :: T) ∧ SAt W0 (wr.drewN q) ob L cap (pre ++ (([] ++ x :: T) ++ (Q ++ post))) pb g n c D) := fun q => HNXT.out _ (hS.drewN q) (.inl rfl)
          have hPl : Hid (i + 1 = j + (P ++ [x]).length) := by show _ = _; have := hiR.out; rw [List.length_append, ← hRl, this]; simp; omega
          clear HNXT hJ hI hPm hS hgS
          go_wp2_with fail
          go_quiet (fail)
          go_wp2
          go_roundg Q.length
          case measure => have := HQL.out; omega
          case rel => exact ⟨Q, P ++ [x], [] ++ x :: T, i + 1, HN.out nq, hPl, rfl, by have := HQL.out; omega, by go_num⟩
        · rw [List.concat_eq_append] at *
          have hSl : (S' ++ [y]).length = S'.length + 1 := by simp
          obtain ⟨p, hp⟩ : ∃ p, p = a + S'.length := ⟨_, rfl⟩
          have hjp : j = p + 1 := by rw [hj, hSl]; omega
          have hXe : pre ++ ((S' ++ [y]) ++ x :: (T ++ (Q ++ post))) = pre ++ (S' ++ y :: (x :: (T ++ (Q ++ post)))) := by simp
          have hx : (pre ++ ((S' ++ [y]) ++ x :: (T ++ (Q ++ post))))[j]? = some x := mid_at (by rw [← HA.out]; exact hj)
          have hy : (pre ++ ((S' ++ [y]) ++ x :: (T ++ (Q ++ post))))[p]? = some y := by rw [hXe]; exact mid_at (by rw [← HA.out]; exact hp)
          obtain ⟨cx, fx⟩ := hS.cell hx
          obtain ⟨cy, fy⟩ := hS.cell hy
          obtain ⟨x0, x1⟩ := hS.rng x (by simp)
          obtain ⟨y0, y1⟩ := hS.rng y (by simp)
          have HCL := Lib.hid (fun q : Nat => closure_any pb g n c D x y (wr.drewN q) hS.cp (hS.dist x x0 x1) (hS.dist y y0 y1) x0 x1 y0 y1 hn)
          have e1 : (j : Int) - 1 = p := by omega
          have e2 : IntKind.i64.wrap (p : Int) = p := IntWalk.i64_in _ (by omega)
          have e3 : (a : Int) < j := by omega
          have i3 : (j : Int) < L := by omega
          have i4 : (p : Int) < L := by omega
          by_cases hlt : at0 D x < at0 D y
          · have hc : cmpI (at0 D x) (at0 D y) < 0 := (cmpI_neg _ _).2 hlt
            generalize cmpI (at0 D x) (at0 D y) = cv at *
            have HSW : Hid (∀ q q2, SAt W0 ((((wr.drewN q).drewN q2).setCell ⟨ob, j, none⟩ (.int .i64 y)).setCell ⟨ob, p, none⟩ (.int .i64 x)) ob L cap (pre ++ (S' ++ x :: ((y :: T) ++ (Q ++ post)))) pb g n c D) := fun q q2 => by
              have h1 := ((hS.drewN q).drewN q2).set j y ⟨y0, y1⟩
              rw [mid_set (by rw [← HA.out]; exact hj)] at h1
              have h2 := h1.set p x ⟨x0, x1⟩
              rw [show pre ++ ((S' ++ [y]) ++ y :: (T ++ (Q ++ post))) = pre ++ (S' ++ y :: (y :: (T ++ (Q ++ post)))) by simp, mid_set (by rw [← HA.out]; exact hp)] at h2
              exact h2
            have HI2 : Hid (InsI D S' x (y :: T) ∧ (S' ++ (y :: T)).Perm P ∧ p = a + S'.length) := ⟨hI.step hlt, by simpa using hPm, hp⟩
            clear HNXT hJ hI hPm hS hXe hx hy hSl hj hjp hp
            go_wp2_with fail
            go_quiet ((go_at_call 34; exact Calls.quiet_of (HCL.out _)))
            have hjp2 : ¬ j = p := by omega
            have hpj2 : ¬ p = j := by omega
            have cx' : (wr.drewN nq).cell? ⟨ob, j, none⟩ = some (.int .i64 x) := cx
            have fx' : (wr.drewN nq).frozen? ⟨ob, j, none⟩ = false := fx
            have cy' : (wr.drewN nq).cell? ⟨ob, p, none⟩ = some (.int .i64 y) := cy
            have fy' : (wr.drewN nq).frozen? ⟨ob, p, none⟩ = false := fy
            have HSW2 : Hid (InsI D S' x (y :: T) ∧ (S' ++ (y :: T)).Perm P ∧ SAt W0 ((((wr.drewN nq).setCell ⟨ob, j, none⟩ (.int .i64 y)).setCell ⟨ob, p, none⟩ (.int .i64 x)).drew) ob L cap (pre ++ (S' ++ x :: ((y :: T) ++ (Q ++ post)))) pb g n c D ∧ p = a + S'.length) := ⟨HI2.out.1, HI2.out.2.1, HSW.out nq 1, HI2.out.2.2⟩
            have hap : a ≤ p := by have := HI2.out.2.2; omega
            have hpS : Hid (S'.length < gk) := by show _ < _; rw [hgS]; simp
            clear HSW cx fx cy fy HCL hc HI2 hgS
            generalize wr.drewN nq = w3 at *
            go_wp2_with fail
            go_region
            go_wp2
            go_roundg S'.length
            case measure => exact hpS.out
            case rel => exact ⟨S', y :: T, p, HSW2, rfl, by omega, hap, by rfl⟩
          · have hc : ¬ cmpI (at0 D x) (at0 D y) < 0 := fun h => hlt ((cmpI_neg _ _).1 h)
            have hcd : decide (cmpI (at0 D x) (at0 D y) < 0) = false := by simpa using hc
            generalize cmpI (at0 D x) (at0 D y) = cv at *
            have HN : Hid (∀ q, M = (P ++ [x]) ++ Q ∧ ((S' ++ [y]) ++ x :: T).Perm (P ++ [x]) ∧ lexS D ((S' ++ [y]) ++ x :: T) ∧ SAt W0 (wr.drewN q) ob L cap (pre ++ (((S' ++ [y]) ++ x :: T) ++ (Q ++ post))) pb g n c D) := fun q => HNXT.out _ (hS.drewN q) (.inr ⟨S', y, rfl, by omega⟩)
            have hPl : Hid (i + 1 = a + (P ++ [x]).length) := by show _ = _; have := hiR.out; rw [List.length_append, ← hRl, this]; simp; omega
            clear HNXT hJ hI hPm hS hXe hx hy hSl hj hjp hp
            go_wp2_with fail
            go_quiet ((go_at_call 34; exact Calls.quiet_of (HCL.out _)))
            go_wp2
            go_roundg Q.length
            case measure => have := HQL.out; omega
            case rel => exact ⟨Q, P ++ [x], (S' ++ [y]) ++ x :: T, i + 1, HN.out nq, hPl, rfl, by have := HQL.out; omega, by go_num⟩
end Stb
end Go.Proofs.Ytjnjppikhdfomaa

namespace Go.Proofs.Ytjnjppikhdfomaa
open Go Go.RowKit Go.Proofs B Rng
namespace Stb
open Swp Ref

set_option maxRecDepth 100000 in
set_option maxHeartbeats 4000000 in
theorem swapr_any (W0 w : World) (ob L cap : Nat) (pre A mid B post : List Int) (pb g n c : Nat) (D : List Int) (h : SAt W0 w ob L cap (pre ++ (A ++ (mid ++ (B ++ post)))) pb g n c D) (hL : L ≤ 1048576) (a b k : Nat) (ha : a = pre.length) (hb : b = pre.length + A.length + mid.length) (hA : A.length = k) (hB : B.length = k) (cf : Value) :
    Calls Try.prog 112 #[.slice (some ⟨ob, 0, none⟩) L cap, .int .i64 a, .int .i64 b, .int .i64 k, cf] w fun e w' => e = .returned (.tuple #[]) ∧ SAt W0 w' ob L cap (pre ++ (B ++ (mid ++ (A ++ post)))) pb g n c D := by
  have hlen := h.len
  have hbL : b + k ≤ L := by simp at hlen; omega
  have hab : a + k ≤ b := by omega
  have HH := Lib.hid h
  have HA := Lib.hid ha
  have HB := Lib.hid hb
  have HKA := Lib.hid hA
  have HKB := Lib.hid hB
  have hP : ∃ Pst, Pst = fun w' => SAt W0 w' ob L cap (pre ++ (B ++ (mid ++ (A ++ post)))) pb g n c D := ⟨_, rfl⟩
  obtain ⟨Pst, hP⟩ := hP
  have HP : Hid (∀ w', SAt W0 w' ob L cap (pre ++ (B ++ (mid ++ (A ++ post)))) pb g n c D → Pst w') := fun w' h => by rw [hP]; exact h
  suffices hx : Calls Try.prog 112 #[.slice (some ⟨ob, 0, none⟩) L cap, .int .i64 a, .int .i64 b, .int .i64 k, cf] w fun e w' => e = .returned (.tuple #[]) ∧ Pst w' by
    refine hx.mono ?_
    rintro e w' ⟨he, hp⟩
    rw [hP] at hp
    exact ⟨he, hp⟩
  clear h ha hb hA hB hlen hP
  go_enter Try.func112, Try.ntmps112
  go_wp2_with fail
  go_loopg [10] k (fun gh x10 wr => ∃ (i : Nat) (A1 A2 B1 B2 : List Int), Hid (A = A1 ++ A2 ∧ B = B1 ++ B2 ∧ A1.length = i ∧ B1.length = i ∧ SAt W0 wr ob L cap (pre ++ ((B1 ++ A2) ++ (mid ++ ((A1 ++ B2) ++ post)))) pb g n c D) ∧ i ≤ k ∧ gh + i = k ∧ x10 = .int .i64 (i : Int))
  case atStart => exact ⟨0, [], A, [], B, ⟨rfl, rfl, rfl, rfl, HH.out⟩, Nat.zero_le _, by omega, rfl⟩
  case round =>
    clear HH
    obtain ⟨i, A1, A2, B1, B2, hI, hik, hg, rfl⟩ := hrel
    obtain ⟨hAe, hBe, hA1, hB1, hS⟩ := hI.out
    by_cases hlt : i < k
    · have hA2 : 0 < A2.length := by have := HKA.out; rw [hAe, List.length_append] at this; omega
      have hB2 : 0 < B2.length := by have := HKB.out; rw [hBe, List.length_append] at this; omega
      cases A2 with
      | nil => simp at hA2
      | cons x A2 =>
      cases B2 with
      | nil => simp at hB2
      | cons y B2 =>
      obtain ⟨p, hp⟩ : ∃ p, p = a + i := ⟨_, rfl⟩
      obtain ⟨q, hq⟩ : ∃ q, q = b + i := ⟨_, rfl⟩
      have f1 : pre ++ ((B1 ++ x :: A2) ++ (mid ++ ((A1 ++ y :: B2) ++ post))) = pre ++ (B1 ++ x :: (A2 ++ (mid ++ ((A1 ++ y :: B2) ++ post)))) := by simp
      have f2 : ∀ z, pre ++ (B1 ++ z :: (A2 ++ (mid ++ ((A1 ++ y :: B2) ++ post)))) = pre ++ ((B1 ++ z :: (A2 ++ (mid ++ A1))) ++ y :: (B2 ++ post)) := fun z => by simp
      have hpl : p = pre.length + B1.length := by rw [hp, HA.out, hB1]
      have hql : ∀ z, q = pre.length + (B1 ++ z :: (A2 ++ (mid ++ A1))).length := fun z => by
        have := HKA.out; rw [hAe] at this; simp at this ⊢; have := HB.out; rw [hAe] at this; simp at this; omega
      have hx : (pre ++ ((B1 ++ x :: A2) ++ (mid ++ ((A1 ++ y :: B2) ++ post))))[p]? = some x := by rw [f1]; exact mid_at hpl
      have hy : (pre ++ ((B1 ++ x :: A2) ++ (mid ++ ((A1 ++ y :: B2) ++ post))))[q]? = some y := by rw [f1, f2]; exact mid_at (hql x)
      obtain ⟨cx, fx⟩ := hS.cell hx
      obtain ⟨cy, fy⟩ := hS.cell hy
      have rx := hS.rng x (by simp)
      have ry := hS.rng y (by simp)
      have HN : Hid (A = (A1 ++ [x]) ++ A2 ∧ B = (B1 ++ [y]) ++ B2 ∧ (A1 ++ [x]).length = i + 1 ∧ (B1 ++ [y]).length = i + 1 ∧ SAt W0 (((wr.setCell ⟨ob, p, none⟩ (.int .i64 y)).setCell ⟨ob, q, none⟩ (.int .i64 x)).drew) ob L cap (pre ++ (((B1 ++ [y]) ++ A2) ++ (mid ++ (((A1 ++ [x]) ++ B2) ++ post)))) pb g n c D) := by
        refine ⟨by rw [hAe]; simp, by rw [hBe]; simp, by simp [hA1], by simp [hB1], ?_⟩
        have h1 := hS.set p y ry
        rw [f1, mid_set hpl, f2] at h1
        have h2 := (h1.set q x rx).drewN 1
        rw [mid_set (hql y)] at h2
        have e : pre ++ ((B1 ++ y :: (A2 ++ (mid ++ A1))) ++ x :: (B2 ++ post)) = pre ++ (((B1 ++ [y]) ++ A2) ++ (mid ++ (((A1 ++ [x]) ++ B2) ++ post))) := by simp
        rw [← e]
        exact h2
      have e1 : (a : Int) + i = p := by omega
      have e2 : (b : Int) + i = q := by omega
      have e3 : IntKind.i64.wrap (p : Int) = p := IntWalk.i64_in _ (by omega)
      have e4 : IntKind.i64.wrap (q : Int) = q := IntWalk.i64_in _ (by omega)
      have i1 : (i : Int) < k := by omega
      have i3 : (p : Int) < L := by omega
      have i4 : (q : Int) < L := by omega
      have n1 : ¬ p = q := by omega
      have n2 : ¬ q = p := by omega
      clear hI hAe hBe hA1 hB1 hS hA2 hB2 f1 f2 hpl hql hx hy rx ry hp hq
      go_wp2_with fail
      go_region
      go_wp2
      go_roundg (gk - 1)
      case measure => omega
      case rel => exact ⟨i + 1, A1 ++ [x], A2, B1 ++ [y], B2, HN, by omega, by omega, by go_num⟩
    · have hA2 : A2 = [] := by have := HKA.out; rw [hAe, List.length_append] at this; exact List.eq_nil_of_length_eq_zero (by omega)
      have hB2 : B2 = [] := by have := HKB.out; rw [hBe, List.length_append] at this; exact List.eq_nil_of_length_eq_zero (by omega)
      have HF : Hid (Pst wr) := HP.out wr (by rw [hAe, hBe, hA2, hB2]; rw [hA2, hB2] at hS; simpa using hS)
      have hn : ¬ (i : Int) < k := by omega
      clear hI hAe hBe hS HP hA2 hB2 hA1 hB1
      go_wp2
      go_end0
      exact ⟨rfl, HF.out⟩
end Stb
end Go.Proofs.Ytjnjppikhdfomaa

namespace Go.Proofs.Ytjnjppikhdfomaa
open Go Go.RowKit Go.Proofs B Rng
namespace Stb
open Swp Ref

set_option maxRecDepth 100000 in
set_option maxHeartbeats 4000000 in
theorem rotate_any (W0 w : World) (ob L cap : Nat) (pre A B post : List Int) (pb g n c : Nat) (D : List Int) (h : SAt W0 w ob L cap (pre ++ (A ++ (B ++ post))) pb g n c D) (hL : L ≤ 1048576) (a m b : Nat) (ha : a = pre.length) (hm : m = pre.length + A.length) (hb : b = m + B.length) (hA : 1 ≤ A.length) (hB : 1 ≤ B.length) (cf : Value) :
    Calls Try.prog 105 #[.slice (some ⟨ob, 0, none⟩) L cap, .int .i64 a, .int .i64 m, .int .i64 b, cf] w fun e w' => e = .returned (.tuple #[]) ∧ SAt W0 w' ob L cap (pre ++ (B ++ (A ++ post))) pb g n c D := by
  have hlen := h.len
  have hbL : b ≤ L := by simp at hlen; omega
  have HH := Lib.hid h
  have HA := Lib.hid ha
  have HMM := Lib.hid hm
  obtain ⟨Pst, hP⟩ : ∃ Pst, Pst = fun w' => SAt W0 w' ob L cap (pre ++ (B ++ (A ++ post))) pb g n c D := ⟨_, rfl⟩
  have HP : Hid (∀ w' X, X = pre ++ (B ++ (A ++ post)) → SAt W0 w' ob L cap X pb g n c D → Pst w') := fun w' X e h => by rw [hP]; rw [← e]; exact h
  suffices hx : Calls Try.prog 105 #[.slice (some ⟨ob, 0, none⟩) L cap, .int .i64 a, .int .i64 m, .int .i64 b, cf] w fun e w' => e = .returned (.tuple #[]) ∧ Pst w' by
    refine hx.mono ?_
    rintro e w' ⟨he, hp⟩
    rw [hP] at hp
    exact ⟨he, hp⟩
  obtain ⟨i0, hi0⟩ : ∃ i0, i0 = A.length := ⟨_, rfl⟩
  obtain ⟨j0, hj0⟩ : ∃ j0, j0 = B.length := ⟨_, rfl⟩
  have e1 : (m : Int) - a = i0 := by omega
  have e2 : (b : Int) - m = j0 := by omega
  have e3 : IntKind.i64.wrap (i0 : Int) = i0 := IntWalk.i64_in _ (by omega)
  have e4 : IntKind.i64.wrap (j0 : Int) = j0 := IntWalk.i64_in _ (by omega)
  have H0 : Hid (∃ P A' B' Q : List Int, B ++ A = P ++ ((B' ++ A') ++ Q) ∧ A'.length = i0 ∧ B'.length = j0 ∧ m = pre.length + P.length + i0 ∧ SAt W0 w ob L cap (pre ++ (P ++ (A' ++ (B' ++ (Q ++ post))))) pb g n c D) :=
    ⟨[], A, B, [], by simp, hi0.symm, hj0.symm, by simp; omega, by simpa using h⟩
  have hij : 1 ≤ i0 ∧ 1 ≤ j0 ∧ i0 ≤ m ∧ m + j0 ≤ L := by omega
  clear h ha hm hb hA hB hlen hP hi0 hj0 HH
  go_enter Try.func105, Try.ntmps105
  go_wp2_with fail
  go_loopg [10, 11] (i0 + j0) (fun gh x10 x11 wr => ∃ (i j : Nat), Hid (∃ P A' B' Q : List Int, B ++ A = P ++ ((B' ++ A') ++ Q) ∧ A'.length = i ∧ B'.length = j ∧ m = pre.length + P.length + i ∧ SAt W0 wr ob L cap (pre ++ (P ++ (A' ++ (B' ++ (Q ++ post))))) pb g n c D) ∧ (1 ≤ i ∧ 1 ≤ j ∧ i ≤ m ∧ m + j ≤ L) ∧ gh = i + j ∧ x10 = .int .i64 (i : Int) ∧ x11 = .int .i64 (j : Int))
  case atStart => exact ⟨i0, j0, H0, hij, rfl, rfl, rfl⟩
  case round =>
    clear H0 hij e1 e2 e3 e4
    obtain ⟨i, j, hI, ⟨q1, q2, q3, q4⟩, hg, rfl, rfl⟩ := hrel
    obtain ⟨P, A', B', Q, hT, hA', hB', hmm, hS⟩ := hI.out
    obtain ⟨p, hp⟩ : ∃ p, p = pre.length + P.length := ⟨_, rfl⟩
    have f1 : (m : Int) - i = p := by omega
    have f2 : IntKind.i64.wrap (p : Int) = p := IntWalk.i64_in _ (by omega)
    by_cases hne : i = j
    · subst hne
      have HC := Lib.hid (swapr_any W0 wr ob L cap (pre ++ P) A' [] B' (Q ++ post) pb g n c D (by simpa using hS) hL p m i (by simpa using hp) (by simp; omega) hA' hB' cf)
      have hX : Hid ((pre ++ P) ++ (B' ++ ([] ++ (A' ++ (Q ++ post)))) = pre ++ (B ++ (A ++ post))) := by
        show _ = _
        have : B ++ (A ++ post) = (B ++ A) ++ post := by simp
        rw [this, hT]; simp
      clear hI hT hA' hB' hmm hS hp
      go_wp2_with fail
      refine (HC.out).mono ?_
      rintro e w' ⟨rfl, hS'⟩
      have HF := Lib.hid (HP.out w' _ hX.out hS')
      clear hS' HC HP
      go_wp2
      go_end0
      exact ⟨rfl, HF.out⟩
    · by_cases hgt : j < i
      · have hgz : (j : Int) < i := by omega
        have hnz : ¬ (i : Int) = j := by omega
        obtain ⟨A1, A2, rfl, hA1⟩ : ∃ A1 A2, A' = A1 ++ A2 ∧ A1.length = j := ⟨A'.take j, A'.drop j, (List.take_append_drop j A').symm, by rw [List.length_take]; omega⟩
        have hA2 : A2.length = i - j := by rw [List.length_append] at hA'; omega
        have HC := Lib.hid (swapr_any W0 wr ob L cap (pre ++ P) A1 A2 B' (Q ++ post) pb g n c D (by simpa using hS) hL p m j (by simpa using hp) (by simp; omega) hA1 hB' cf)
        obtain ⟨d, hd⟩ : ∃ d, d = i - j := ⟨_, rfl⟩
        have f3 : (i : Int) - j = d := by omega
        have f4 : IntKind.i64.wrap (d : Int) = d := IntWalk.i64_in _ (by omega)
        have HN : Hid (∀ V, SAt W0 V ob L cap ((pre ++ P) ++ (B' ++ (A2 ++ (A1 ++ (Q ++ post))))) pb g n c D → ∃ P A' B' Q : List Int, B ++ A = P ++ ((B' ++ A') ++ Q) ∧ A'.length = d ∧ B'.length = j ∧ m = pre.length + P.length + d ∧ SAt W0 V ob L cap (pre ++ (P ++ (A' ++ (B' ++ (Q ++ post))))) pb g n c D) := fun V hV =>
          ⟨P ++ B', A2, A1, Q, by rw [hT]; simp, by omega, hA1, by simp; omega, by simpa using hV⟩
        have hdd : (1 ≤ d ∧ 1 ≤ j ∧ d ≤ m ∧ m + j ≤ L) ∧ d + j < i + j := by omega
        clear hI hT hA' hB' hmm hS hp hA1 hA2 hd
        go_wp2_with fail
        refine (HC.out).mono ?_
        rintro e w' ⟨rfl, hS'⟩
        have HN2 := Lib.hid (HN.out w' hS')
        clear hS' HC HN
        go_wp2
        go_roundg (d + j)
        case measure => omega
        case rel => exact ⟨d, j, HN2, hdd.1, rfl, rfl, rfl⟩
      · have hgz : ¬ (j : Int) < i := by omega
        have hnz : ¬ (i : Int) = j := by omega
        obtain ⟨B1, B2, rfl, hB2⟩ : ∃ B1 B2, B' = B1 ++ B2 ∧ B2.length = i := ⟨B'.take (j - i), B'.drop (j - i), (List.take_append_drop (j - i) B').symm, by rw [List.length_drop]; omega⟩
        have hB1 : B1.length = j - i := by rw [List.length_append] at hB'; omega
        obtain ⟨d, hd⟩ : ∃ d, d = j - i := ⟨_, rfl⟩
        obtain ⟨r, hr⟩ : ∃ r, r = m + d := ⟨_, rfl⟩
        have HC := Lib.hid (swapr_any W0 wr ob L cap (pre ++ P) A' B1 B2 (Q ++ post) pb g n c D (by simpa using hS) hL p r i (by simpa using hp) (by simp; omega) hA' hB2 cf)
        have f3 : (j : Int) - i = d := by omega
        have f4 : IntKind.i64.wrap (d : Int) = d := IntWalk.i64_in _ (by omega)
        have f5 : (m : Int) + j - i = r := by omega
        have f6 : IntKind.i64.wrap (r : Int) = r := IntWalk.i64_in _ (by omega)
        have HN : Hid (∀ V, SAt W0 V ob L cap ((pre ++ P) ++ (B2 ++ (B1 ++ (A' ++ (Q ++ post))))) pb g n c D → ∃ P A' B' Q : List Int, B ++ A = P ++ ((B' ++ A') ++ Q) ∧ A'.length = i ∧ B'.length = d ∧ m = pre.length + P.length + i ∧ SAt W0 V ob L cap (pre ++ (P ++ (A' ++ (B' ++ (Q ++ post))))) pb g n c D) := fun V hV =>
          ⟨P, B2, B1, A' ++ Q, by rw [hT]; simp, hB2, by omega, hmm, by simpa using hV⟩
        have hdd : (1 ≤ i ∧ 1 ≤ d ∧ i ≤ m ∧ m + d ≤ L) ∧ i + d < i + j := by omega
        clear hI hT hA' hB' hmm hS hp hB1 hB2 hd hr
        go_wp2_with fail
        refine (HC.out).mono ?_
        rintro e w' ⟨rfl, hS'⟩
        have HN2 := Lib.hid (HN.out w' hS')
        clear hS' HC HN
        go_wp2
        go_roundg (i + d)
        case measure => omega
        case rel => exact ⟨i, d, HN2, hdd.1, rfl, rfl, rfl⟩
end Stb
end Go.Proofs.Ytjnjppikhdfomaa

namespace Go.Proofs.Ytjnjppikhdfomaa
open Go Go.RowKit Go.Proofs B Rng
namespace Stb
open Swp Ref

/-- Of equals, those of A come first. -/
def Com (D : List Int) (A B : List Int) : Prop := ∀ p ∈ A, ∀ q ∈ B, at0 D p = at0 D q → p < q

theorem lexLt_trans {D : List Int} {a b c : Int} (h : lexLt D a b) (k : lexLt D b c) : lexLt D a c := by
  unfold lexLt at *; omega

/-- A cut at which both halves of a merge part. -/
structure Cut (D : List Int) (A1 A2 B1 B2 : List Int) : Prop where
  sa : lexS D (A1 ++ A2)
  sb : lexS D (B1 ++ B2)
  com : Com D (A1 ++ A2) (B1 ++ B2)
  ab : ∀ A' a b B', A1 = A' ++ [a] → B2 = b :: B' → at0 D a ≤ at0 D b
  ba : ∀ B' b a A', B1 = B' ++ [b] → A2 = a :: A' → at0 D b < at0 D a

theorem lexLe_last {D : List Int} {S : List Int} {y p : Int} (h : lexS D (S ++ [y])) (hp : p ∈ S ++ [y]) : p = y ∨ lexLt D p y := by
  unfold lexS at h
  rw [List.pairwise_append] at h
  rcases List.mem_append.1 hp with hp | hp
  · exact .inr (h.2.2 p hp y (by simp))
  · simp at hp; exact .inl hp
theorem lexLe_first {D : List Int} {S : List Int} {y q : Int} (h : lexS D (y :: S)) (hq : q ∈ y :: S) : q = y ∨ lexLt D y q := by
  unfold lexS at h
  rw [List.pairwise_cons] at h
  rcases List.mem_cons.1 hq with hq | hq
  · exact .inl hq
  · exact .inr (h.1 q hq)

theorem Cut.parts {D : List Int} {A1 A2 B1 B2 : List Int} (h : Cut D A1 A2 B1 B2) : (∀ p ∈ A1 ++ B1, ∀ q ∈ A2 ++ B2, lexLt D p q) ∧ (lexS D A1 ∧ lexS D B1 ∧ Com D A1 B1) ∧ (lexS D A2 ∧ lexS D B2 ∧ Com D A2 B2) := by
  have ha := h.sa
  have hb := h.sb
  unfold lexS at ha hb
  rw [List.pairwise_append] at ha hb
  refine ⟨fun p hp q hq => ?_, ⟨ha.1, hb.1, fun p hp q hq => h.com p (by simp [hp]) q (by simp [hq])⟩, ⟨ha.2.1, hb.2.1, fun p hp q hq => h.com p (by simp [hp]) q (by simp [hq])⟩⟩
  rcases List.mem_append.1 hp with hp | hp <;> rcases List.mem_append.1 hq with hq | hq
  · exact ha.2.2 p hp q hq
  · -- p of A1, q of B2
    rcases List.eq_nil_or_concat A1 with rfl | ⟨A', a, rfl⟩
    · simp at hp
    · cases B2 with
      | nil => simp at hq
      | cons b B' =>
        rw [List.concat_eq_append] at *
        have hab := h.ab A' a b B' rfl rfl
        have h1 := lexLe_last (D := D) ha.1 hp
        have h2 := lexLe_first (D := D) hb.2.1 hq
        have hc := h.com p (by simp at hp ⊢; rcases hp with hp | hp <;> simp [hp]) q (by simp at hq ⊢; rcases hq with hq | hq <;> simp [hq])
        have e1 : at0 D p ≤ at0 D a := by rcases h1 with rfl | h1 <;> (unfold lexLt at *; omega)
        have e2 : at0 D b ≤ at0 D q := by rcases h2 with rfl | h2 <;> (unfold lexLt at *; omega)
        by_cases e : at0 D p = at0 D q
        · exact .inr ⟨e, hc e⟩
        · left; omega
  · -- p of B1, q of A2
    rcases List.eq_nil_or_concat B1 with rfl | ⟨B', b, rfl⟩
    · simp at hp
    · cases A2 with
      | nil => simp at hq
      | cons a A' =>
        rw [List.concat_eq_append] at *
        have hba := h.ba B' b a A' rfl rfl
        have h1 := lexLe_last (D := D) hb.1 hp
        have h2 := lexLe_first (D := D) ha.2.1 hq
        have e1 : at0 D p ≤ at0 D b := by rcases h1 with rfl | h1 <;> (unfold lexLt at *; omega)
        have e2 : at0 D a ≤ at0 D q := by rcases h2 with rfl | h2 <;> (unfold lexLt at *; omega)
        left; omega
  · exact hb.2.2 p hp q hq

/-- The two halves, each merged, are the whole. -/
theorem Cut.join {D : List Int} {A1 A2 B1 B2 M1 M2 : List Int} (h : Cut D A1 A2 B1 B2) (p1 : M1.Perm (A1 ++ B1)) (p2 : M2.Perm (A2 ++ B2)) (s1 : lexS D M1) (s2 : lexS D M2) : lexS D (M1 ++ M2) ∧ (M1 ++ M2).Perm ((A1 ++ A2) ++ (B1 ++ B2)) := by
  refine ⟨?_, ?_⟩
  · unfold lexS at *
    rw [List.pairwise_append]
    exact ⟨s1, s2, fun p hp q hq => h.parts.1 p (p1.mem_iff.1 hp) q (p2.mem_iff.1 hq)⟩
  · refine (p1.append p2).trans ?_
    rw [List.append_assoc, List.append_assoc]
    refine List.Perm.append_left A1 ?_
    rw [← List.append_assoc, ← List.append_assoc]
    exact List.Perm.append_right B2 List.perm_append_comm
end Stb
end Go.Proofs.Ytjnjppikhdfomaa

namespace Go.Proofs.Ytjnjppikhdfomaa
open Go Go.RowKit Go.Proofs B Rng
namespace Stb
open Swp Ref

/-- One ahead of a row: it goes in behind all that are nearer. -/
theorem ins_left {D : List Int} {x : Int} {B1 B2 : List Int} (hs : lexS D (B1 ++ B2)) (hc : Com D [x] (B1 ++ B2)) (h1 : ∀ B' b, B1 = B' ++ [b] → at0 D b < at0 D x) (h2 : ∀ b B', B2 = b :: B' → at0 D x ≤ at0 D b) : lexS D (B1 ++ x :: B2) := by
  have hs' := hs
  unfold lexS at hs' ⊢
  rw [List.pairwise_append] at hs' ⊢
  have hx2 : ∀ q ∈ B2, lexLt D x q := fun q hq => by
    cases B2 with
    | nil => simp at hq
    | cons b B' =>
      have e := h2 b B' rfl
      have e2 : at0 D b ≤ at0 D q := by
        rcases lexLe_first (D := D) hs'.2.1 hq with rfl | h
        · exact Int.le_refl _
        · unfold lexLt at h; omega
      by_cases e3 : at0 D x = at0 D q
      · exact .inr ⟨e3, hc x (by simp) q (by simp at hq ⊢; rcases hq with hq | hq <;> simp [hq]) e3⟩
      · left; omega
  refine ⟨hs'.1, List.pairwise_cons.2 ⟨hx2, hs'.2.1⟩, fun p hp q hq => ?_⟩
  have hpx : lexLt D p x := by
    rcases List.eq_nil_or_concat B1 with rfl | ⟨B', b, rfl⟩
    · simp at hp
    · rw [List.concat_eq_append] at *
      have e := h1 B' b rfl
      left
      rcases lexLe_last (D := D) hs'.1 hp with rfl | h
      · exact e
      · unfold lexLt at h; omega
  rcases List.mem_cons.1 hq with rfl | hq
  · exact hpx
  · exact hs'.2.2 p hp q hq

/-- One behind a row: it goes in behind all that are no further. -/
theorem ins_right {D : List Int} {y : Int} {A1 A2 : List Int} (hs : lexS D (A1 ++ A2)) (hc : Com D (A1 ++ A2) [y]) (h1 : ∀ A' a, A1 = A' ++ [a] → at0 D a ≤ at0 D y) (h2 : ∀ a A', A2 = a :: A' → at0 D y < at0 D a) : lexS D (A1 ++ y :: A2) := by
  have hs' := hs
  unfold lexS at hs' ⊢
  rw [List.pairwise_append] at hs' ⊢
  have hy2 : ∀ q ∈ A2, lexLt D y q := fun q hq => by
    cases A2 with
    | nil => simp at hq
    | cons a A' =>
      have e := h2 a A' rfl
      left
      rcases lexLe_first (D := D) hs'.2.1 hq with rfl | h
      · exact e
      · unfold lexLt at h; omega
  refine ⟨hs'.1, List.pairwise_cons.2 ⟨hy2, hs'.2.1⟩, fun p hp q hq => ?_⟩
  have hpy : lexLt D p y := by
    rcases List.eq_nil_or_concat A1 with rfl | ⟨A', a, rfl⟩
    · simp at hp
    · rw [List.concat_eq_append] at *
      have e := h1 A' a rfl
      have e2 : at0 D p ≤ at0 D a := by
        rcases lexLe_last (D := D) hs'.1 hp with rfl | h
        · exact Int.le_refl _
        · unfold lexLt at h; omega
      by_cases e3 : at0 D p = at0 D y
      · exact .inr ⟨e3, hc p (by simp at hp ⊢; rcases hp with hp | hp <;> simp [hp]) y (by simp) e3⟩
      · left; omega
  rcases List.mem_cons.1 hq with rfl | hq
  · exact hpy
  · exact hs'.2.2 p hp q hq
end Stb
end Go.Proofs.Ytjnjppikhdfomaa
