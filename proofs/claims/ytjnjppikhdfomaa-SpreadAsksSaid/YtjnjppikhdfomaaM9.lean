import Derived.Test.YtjnjppikhdfomaaM8
set_option linter.unusedVariables false
set_option linter.unusedSimpArgs false

namespace Go.Proofs.Ytjnjppikhdfomaa
open Go Go.RowKit Go.Proofs B Rng
namespace Stb
open Swp Ref

/-- What a merge of A and B leaves. -/
def MrgPost (W0 : World) (ob L cap : Nat) (pb g n c : Nat) (D : List Int) (pre A B post : List Int) (w' : World) : Prop := SrtPost W0 ob L cap pb g n c D pre (A ++ B) post w'

set_option maxRecDepth 100000 in
set_option maxHeartbeats 4000000 in
theorem sym_left (W0 w : World) (ob L cap : Nat) (pre B post : List Int) (x : Int) (pb g n c : Nat) (D : List Int) (h : SAt W0 w ob L cap (pre ++ ([x] ++ (B ++ post))) pb g n c D) (hB : lexS D B) (hC : Com D [x] B) (hL : L ≤ 1048576) (hn : n ≤ 1048576) (a m b : Nat) (ha : a = pre.length) (hm : m = a + 1) (hb : b = m + B.length) (hB1 : 1 ≤ B.length) :
    Calls Try.prog 89 #[.slice (some ⟨ob, 0, none⟩) L cap, .int .i64 a, .int .i64 m, .int .i64 b, .func (.func 34) #[] #[.pointer (some ⟨pb, 0, none⟩)]] w fun e w' => e = .returned (.tuple #[]) ∧ MrgPost W0 ob L cap pb g n c D pre [x] B post w' := by
  have hlen := h.len
  have hbL : b ≤ L := by simp at hlen; omega
  have HH := Lib.hid h
  have HA := Lib.hid ha
  have HBL := Lib.hid hb
  have HS := Lib.hid hB
  have HC := Lib.hid hC
  have e1 : (m : Int) - a = 1 := by omega
  generalize hpost : MrgPost W0 ob L cap pb g n c D pre [x] B post = Pst at *
  have HP := Lib.hid hpost
  have hmb : m ≤ b := by omega
  have hmz : Hid (m = a + 1) := hm
  clear h hB hC hlen hpost ha hb hm
  go_enter Try.func89, Try.ntmps89
  go_wp2_with fail
  go_loopg [10, 11] (b - m) (fun gh x10 x11 wr => ∃ (u v : Nat), x10 = .int .i64 ((m + u : Nat) : Int) ∧ x11 = .int .i64 ((m + v : Nat) : Int) ∧ u ≤ v ∧ m + v ≤ b ∧ gh = v - u ∧ Hid (SAt W0 wr ob L cap (pre ++ ([x] ++ (B ++ post))) pb g n c D ∧ (∀ q, 1 ≤ u → B[u - 1]? = some q → at0 D q < at0 D x) ∧ (∀ q, B[v]? = some q → at0 D x ≤ at0 D q)))
  case atStart => exact ⟨0, b - m, by simp, by congr 1; omega, Nat.zero_le _, by omega, by omega, HH.out, fun q h => by omega, fun q hq => by
    have := (List.getElem?_eq_some_iff.1 hq).1; have := HBL.out; omega⟩
  case round =>
    clear HH
    obtain ⟨u, v, rfl, rfl, h2, h3, hg, hI⟩ := hrel
    by_cases hlt : u < v
    · obtain ⟨hh, hhe⟩ : ∃ hh, hh = (u + (m + v) + m) / 2 := ⟨_, rfl⟩
      obtain ⟨hS, hu, hv⟩ := hI.out
      obtain ⟨t, ht⟩ : ∃ t, hh = m + t := ⟨hh - m, by omega⟩
      have htu : u ≤ t ∧ t < v := by omega
      have hq : B[t]? = some (B[t]'(by have := HBL.out; omega)) := List.getElem?_eq_getElem _
      generalize B[t]'(by have := HBL.out; omega) = q at hq
      have hX : (pre ++ ([x] ++ (B ++ post)))[hh]? = some q := by
        rw [List.getElem?_append_right (by have := HA.out; have := hmz.out; omega), List.getElem?_append_right (by have := HA.out; have := hmz.out; simp; omega), List.getElem?_append_left (by have := HBL.out; have := HA.out; have := hmz.out; simp; omega)]
        rw [show hh - pre.length - [x].length = t by have := HA.out; have := hmz.out; simp; omega]; exact hq
      have hXx : (pre ++ ([x] ++ (B ++ post)))[a]? = some x := by rw [HA.out, List.getElem?_append_right (Nat.le_refl _)]; simp
      obtain ⟨cq, -⟩ := hS.cell hX
      obtain ⟨cx, -⟩ := hS.cell hXx
      obtain ⟨x0, x1⟩ := hS.rng x (by simp)
      obtain ⟨r0, r1⟩ := hS.rng q (by simp; right; right; left; exact List.mem_of_getElem? hq)
      have HCL := Lib.hid (fun z : Nat => closure_any pb g n c D q x (wr.drewN z) hS.cp (hS.dist q r0 r1) (hS.dist x x0 x1) r0 r1 x0 x1 hn)
      have eh : (((m + u : Nat) : Int) + ((m + v : Nat) : Int)) / 2 = hh := by omega
      have i1 : ((m + u : Nat) : Int) < ((m + v : Nat) : Int) := by omega
      have i2 : (hh : Int) < L := by omega
      have i3 : (a : Int) < L := by have := hmz.out; omega
      have HSn : Hid (∀ z, SAt W0 (wr.drewN z) ob L cap (pre ++ ([x] ++ (B ++ post))) pb g n c D) := fun z => hS.drewN z
      generalize hmu : m + u = mu at *
      generalize hmv : m + v = mv at *
      have HTT := Lib.hid ht
      have HMU := Lib.hid hmu
      have HMV := Lib.hid hmv
      have hbd : hh < b := by omega
      clear ht hmu hmv hhe
      by_cases hcmp : at0 D q < at0 D x
      · have hc : cmpI (at0 D q) (at0 D x) < 0 := (cmpI_neg _ _).2 hcmp
        have HI2 : Hid (∀ z, SAt W0 (wr.drewN z) ob L cap (pre ++ ([x] ++ (B ++ post))) pb g n c D ∧ (∀ q, 1 ≤ t + 1 → B[t + 1 - 1]? = some q → at0 D q < at0 D x) ∧ (∀ q, B[v]? = some q → at0 D x ≤ at0 D q)) := fun z => ⟨HSn.out z, fun q' _ h' => by rw [Nat.add_sub_cancel, hq] at h'; injection h' with h'; rw [← h']; exact hcmp, hv⟩
        generalize cmpI (at0 D q) (at0 D x) = cv at *
        clear hI hS hu hv hq hX hXx HSn
        go_wp2_with fail
        go_quiet ((go_at_call 34; exact Calls.quiet_of (HCL.out _)))
        go_wp2
        go_roundg (v - (t + 1))
        case measure => omega
        case rel => exact ⟨t + 1, v, by rw [show ((m + (t + 1) : Nat) : Int) = (hh : Int) + 1 by have := HTT.out; omega], by rw [HMV.out], by omega, by have := HMV.out; omega, rfl, HI2.out nq⟩
      · have hc : ¬ cmpI (at0 D q) (at0 D x) < 0 := fun h => hcmp ((cmpI_neg _ _).1 h)
        have HI2 : Hid (∀ z, SAt W0 (wr.drewN z) ob L cap (pre ++ ([x] ++ (B ++ post))) pb g n c D ∧ (∀ q, 1 ≤ u → B[u - 1]? = some q → at0 D q < at0 D x) ∧ (∀ q, B[t]? = some q → at0 D x ≤ at0 D q)) := fun z => ⟨HSn.out z, hu, fun q' h' => by rw [hq] at h'; injection h' with h'; rw [← h']; omega⟩
        have hcd : decide (cmpI (at0 D q) (at0 D x) < 0) = false := by simpa using hc
        generalize cmpI (at0 D q) (at0 D x) = cv at *
        clear hI hS hu hv hq hX hXx HSn
        go_wp2_with fail
        go_quiet ((go_at_call 34; exact Calls.quiet_of (HCL.out _)))
        go_wp2
        go_roundg (t - u)
        case measure => omega
        case rel => exact ⟨u, t, by rw [HMU.out], by rw [HTT.out], by omega, by have := HTT.out; omega, rfl, HI2.out nq⟩
    · obtain rfl : u = v := by omega
      obtain ⟨hS, hu, hv⟩ := hI.out
      have H0 : Hid (∃ S T : List Int, B = S ++ T ∧ S.length = 0 ∧ SAt W0 wr ob L cap (pre ++ (S ++ x :: (T ++ post))) pb g n c D) := ⟨[], B, rfl, rfl, by simpa using hS⟩
      have HU := Lib.hid hu
      have HV := Lib.hid hv
      have hub : u ≤ B.length := by have := HBL.out; omega
      obtain ⟨au, hau⟩ : ∃ au, au = a + u := ⟨_, rfl⟩
      have eau : ((m + u : Nat) : Int) - 1 = au := by have := hmz.out; omega
      have eaw : IntKind.i64.wrap (au : Int) = au := IntWalk.i64_in _ (by have := hmz.out; omega)
      have hauL : au < L := by have := hmz.out; omega
      have HAU := Lib.hid hau
      have hnn : ¬ ((m + u : Nat) : Int) < ((m + u : Nat) : Int) := by omega
      clear hI hS hu hv hau
      generalize m + u = mu at *
      go_wp2_with fail
      go_loopg [13] u (fun gh x13 wr => ∃ (t p : Nat), x13 = .int .i64 (p : Int) ∧ Hid (p = a + t) ∧ t ≤ u ∧ p ≤ au ∧ gh = u - t ∧ Hid (∃ S T : List Int, B = S ++ T ∧ S.length = t ∧ SAt W0 wr ob L cap (pre ++ (S ++ x :: (T ++ post))) pb g n c D))
      case atStart => exact ⟨0, a, rfl, rfl, Nat.zero_le _, by have := HAU.out; omega, rfl, H0⟩
      case round =>
        clear H0
        obtain ⟨t, p, rfl, hp, htu, hpa, hgt, hI⟩ := hrel
        obtain ⟨S, T, hBe, hSl, hS⟩ := hI.out
        by_cases hlt2 : p < au
        · have htlt : t < u := by have := HAU.out; have := hp.out; omega
          cases T with
          | nil => rw [hBe, List.append_nil] at hub; omega
          | cons y T =>
          have f1 : pre ++ (S ++ x :: ((y :: T) ++ post)) = pre ++ (S ++ x :: (y :: (T ++ post))) := by simp
          have f2 : ∀ z, pre ++ (S ++ z :: (y :: (T ++ post))) = pre ++ ((S ++ [z]) ++ y :: (T ++ post)) := fun z => by simp
          have hpl : p = pre.length + S.length := by rw [hp.out, HA.out, hSl]
          have hql : ∀ z : Int, p + 1 = pre.length + (S ++ [z]).length := fun z => by rw [List.length_append, hpl]; simp; omega
          obtain ⟨q, hq⟩ : ∃ q, q = p + 1 := ⟨_, rfl⟩
          obtain ⟨cx, fx⟩ := hS.cell (by rw [f1]; exact mid_at hpl)
          obtain ⟨cy, fy⟩ := hS.cell (j := q) (x := y) (by rw [f1, f2]; exact mid_at (by rw [hq]; exact hql x))
          have rx := hS.rng x (by simp)
          have ry := hS.rng y (by simp)
          have HN : Hid (∃ S T : List Int, B = S ++ T ∧ S.length = t + 1 ∧ SAt W0 (((wr.setCell ⟨ob, p, none⟩ (.int .i64 y)).setCell ⟨ob, q, none⟩ (.int .i64 x)).drew) ob L cap (pre ++ (S ++ x :: (T ++ post))) pb g n c D) := by
            refine ⟨S ++ [y], T, by rw [hBe]; simp, by simp [hSl], ?_⟩
            have h1 := hS.set p y ry
            rw [f1, mid_set hpl, f2] at h1
            have h2 := (h1.set q x rx).drewN 1
            rw [hq, mid_set (hql y)] at h2
            rw [hq]; exact h2
          have HPT : Hid (q = a + (t + 1)) := by have := hp.out; show _ = _; omega
          have k1 : (p : Int) + 1 = q := by omega
          have k2 : IntKind.i64.wrap (q : Int) = q := IntWalk.i64_in _ (by omega)
          have k3 : (p : Int) < au := by omega
          have k4 : (p : Int) < L := by omega
          have k5 : (q : Int) < L := by omega
          have k6 : ¬ p = q := by omega
          have k7 : ¬ q = p := by omega
          have k8 : q ≤ au := by omega
          clear hI hS hBe hSl f1 f2 hpl hql rx ry hq hp
          go_wp2_with fail
          go_region
          go_wp2
          go_roundg (u - (t + 1))
          case measure => omega
          case rel => exact ⟨t + 1, q, by first | rfl | go_num, HPT, by omega, k8, rfl, HN⟩
        · have htu2 : t = u := by have := HAU.out; have := hp.out; omega
          have HF : Hid (Pst wr) := by
            rw [← HP.out]
            refine ⟨S ++ x :: T, ?_, ins_left (by rw [← hBe]; exact HS.out) (by rw [← hBe]; exact HC.out) (fun B' b e => ?_) (fun b B' e => ?_), by simpa using hS⟩
            · rw [hBe]; exact List.perm_middle
            · have hSu : S.length = u := by omega
              refine HU.out b (by rw [← hSu, e]; simp) ?_
              rw [hBe, ← hSu, e]; simp
            · refine HV.out b ?_
              rw [hBe, List.getElem?_append_right (by omega), show u - S.length = 0 by omega, e]; rfl
          have hnp : ¬ (p : Int) < au := by omega
          clear hI hS hBe hSl HP
          go_wp2
          (try simp only [Exit.inBlock, Exit.then]); refine bodyPost_ret (results_none rfl _ _ _) rfl ?_
          exact ⟨rfl, HF.out⟩
end Stb
end Go.Proofs.Ytjnjppikhdfomaa

namespace Go.Proofs.Ytjnjppikhdfomaa
open Go Go.RowKit Go.Proofs B Rng
namespace Stb
open Swp Ref

set_option maxRecDepth 100000 in
set_option maxHeartbeats 4000000 in
theorem sym_right (W0 w : World) (ob L cap : Nat) (pre A post : List Int) (y : Int) (pb g n c : Nat) (D : List Int) (h : SAt W0 w ob L cap (pre ++ (A ++ ([y] ++ post))) pb g n c D) (hA : lexS D A) (hC : Com D A [y]) (hL : L ≤ 1048576) (hn : n ≤ 1048576) (a m b : Nat) (ha : a = pre.length) (hm : m = a + A.length) (hb : b = m + 1) (hA1 : 2 ≤ A.length) :
    Calls Try.prog 89 #[.slice (some ⟨ob, 0, none⟩) L cap, .int .i64 a, .int .i64 m, .int .i64 b, .func (.func 34) #[] #[.pointer (some ⟨pb, 0, none⟩)]] w fun e w' => e = .returned (.tuple #[]) ∧ MrgPost W0 ob L cap pb g n c D pre A [y] post w' := by
  have hlen := h.len
  have hbL : b ≤ L := by simp at hlen; omega
  have HH := Lib.hid h
  have HA := Lib.hid ha
  have HML := Lib.hid hm
  have HS := Lib.hid hA
  have HC := Lib.hid hC
  obtain ⟨k0, hk0⟩ : ∃ k0, k0 = A.length := ⟨_, rfl⟩
  have e0 : (m : Int) - a = k0 := by omega
  have e00 : IntKind.i64.wrap (k0 : Int) = k0 := IntWalk.i64_in _ (by omega)
  have e01 : ((k0 : Int) == 1) = false := by simp; omega
  have e1 : (b : Int) - m = 1 := by omega
  have e02 : ¬ (k0 : Int) = 1 := by omega
  generalize hpost : MrgPost W0 ob L cap pb g n c D pre A [y] post = Pst at *
  have HP := Lib.hid hpost
  have ham : a ≤ m := by omega
  have hmL : m < L := by omega
  clear h hA hC hlen hpost ha hb hm hk0
  go_enter Try.func89, Try.ntmps89
  go_wp2_with fail
  go_loopg [14, 15] (m - a) (fun gh x14 x15 wr => ∃ (u v : Nat), x14 = .int .i64 ((a + u : Nat) : Int) ∧ x15 = .int .i64 ((a + v : Nat) : Int) ∧ u ≤ v ∧ a + v ≤ m ∧ gh = v - u ∧ Hid (SAt W0 wr ob L cap (pre ++ (A ++ ([y] ++ post))) pb g n c D ∧ (∀ q, 1 ≤ u → A[u - 1]? = some q → at0 D q ≤ at0 D y) ∧ (∀ q, A[v]? = some q → at0 D y < at0 D q)))
  case atStart => exact ⟨0, m - a, by simp, by congr 1; omega, Nat.zero_le _, by omega, by omega, HH.out, fun q h => by omega, fun q hq => by
    have := (List.getElem?_eq_some_iff.1 hq).1; have := HML.out; omega⟩
  case round =>
    clear HH
    obtain ⟨u, v, rfl, rfl, h2, h3, hg, hI⟩ := hrel
    by_cases hlt : u < v
    · obtain ⟨hh, hhe⟩ : ∃ hh, hh = (u + (a + v) + a) / 2 := ⟨_, rfl⟩
      obtain ⟨hS, hu, hv⟩ := hI.out
      obtain ⟨t, ht⟩ : ∃ t, hh = a + t := ⟨hh - a, by omega⟩
      have htu : u ≤ t ∧ t < v := by omega
      have hq : A[t]? = some (A[t]'(by have := HML.out; omega)) := List.getElem?_eq_getElem _
      generalize A[t]'(by have := HML.out; omega) = q at hq
      have hX : (pre ++ (A ++ ([y] ++ post)))[hh]? = some q := by
        rw [List.getElem?_append_right (by have := HA.out; omega), List.getElem?_append_left (by have := HML.out; have := HA.out; omega)]
        rw [show hh - pre.length = t by have := HA.out; omega]; exact hq
      have hXy : (pre ++ (A ++ ([y] ++ post)))[m]? = some y := by
        rw [List.getElem?_append_right (by have := HML.out; have := HA.out; omega), List.getElem?_append_right (by have := HML.out; have := HA.out; omega)]
        rw [show m - pre.length - A.length = 0 by have := HML.out; have := HA.out; omega]; rfl
      obtain ⟨cq, -⟩ := hS.cell hX
      obtain ⟨cy, -⟩ := hS.cell hXy
      obtain ⟨x0, x1⟩ := hS.rng y (by simp)
      obtain ⟨r0, r1⟩ := hS.rng q (by simp; right; left; exact List.mem_of_getElem? hq)
      have HCL := Lib.hid (fun z : Nat => closure_any pb g n c D y q (wr.drewN z) hS.cp (hS.dist y x0 x1) (hS.dist q r0 r1) x0 x1 r0 r1 hn)
      have eh : (((a + u : Nat) : Int) + ((a + v : Nat) : Int)) / 2 = hh := by omega
      have i1 : ((a + u : Nat) : Int) < ((a + v : Nat) : Int) := by omega
      have i2 : (hh : Int) < L := by omega
      have i3 : (m : Int) < L := by omega
      have HSn : Hid (∀ z, SAt W0 (wr.drewN z) ob L cap (pre ++ (A ++ ([y] ++ post))) pb g n c D) := fun z => hS.drewN z
      generalize hmu : a + u = mu at *
      generalize hmv : a + v = mv at *
      have HTT := Lib.hid ht
      have HMU := Lib.hid hmu
      have HMV := Lib.hid hmv
      have hbd : hh < m := by omega
      clear ht hmu hmv hhe
      by_cases hcmp : at0 D y < at0 D q
      · have hc : cmpI (at0 D y) (at0 D q) < 0 := (cmpI_neg _ _).2 hcmp
        have HI2 : Hid (∀ z, SAt W0 (wr.drewN z) ob L cap (pre ++ (A ++ ([y] ++ post))) pb g n c D ∧ (∀ q, 1 ≤ u → A[u - 1]? = some q → at0 D q ≤ at0 D y) ∧ (∀ q, A[t]? = some q → at0 D y < at0 D q)) := fun z => ⟨HSn.out z, hu, fun q' h' => by rw [hq] at h'; injection h' with h'; rw [← h']; exact hcmp⟩
        generalize cmpI (at0 D y) (at0 D q) = cv at *
        clear hI hS hu hv hq hX hXy HSn
        go_wp2_with fail
        go_quiet ((go_at_call 34; exact Calls.quiet_of (HCL.out _)))
        go_wp2
        go_roundg (t - u)
        case measure => omega
        case rel => exact ⟨u, t, by rw [HMU.out], by rw [HTT.out], by omega, by have := HTT.out; omega, rfl, HI2.out nq⟩
      · have hc : ¬ cmpI (at0 D y) (at0 D q) < 0 := fun h => hcmp ((cmpI_neg _ _).1 h)
        have HI2 : Hid (∀ z, SAt W0 (wr.drewN z) ob L cap (pre ++ (A ++ ([y] ++ post))) pb g n c D ∧ (∀ q, 1 ≤ t + 1 → A[t + 1 - 1]? = some q → at0 D q ≤ at0 D y) ∧ (∀ q, A[v]? = some q → at0 D y < at0 D q)) := fun z => ⟨HSn.out z, fun q' _ h' => by rw [Nat.add_sub_cancel, hq] at h'; injection h' with h'; rw [← h']; omega, hv⟩
        have hcd : decide (cmpI (at0 D y) (at0 D q) < 0) = false := by simpa using hc
        generalize cmpI (at0 D y) (at0 D q) = cv at *
        clear hI hS hu hv hq hX hXy HSn
        go_wp2_with fail
        go_quiet ((go_at_call 34; exact Calls.quiet_of (HCL.out _)))
        go_wp2
        go_roundg (v - (t + 1))
        case measure => omega
        case rel => exact ⟨t + 1, v, by rw [show ((a + (t + 1) : Nat) : Int) = (hh : Int) + 1 by have := HTT.out; omega], by rw [HMV.out], by omega, by have := HMV.out; omega, rfl, HI2.out nq⟩
    · obtain rfl : u = v := by omega
      obtain ⟨hS, hu, hv⟩ := hI.out
      have H0 : Hid (∃ S T : List Int, A = S ++ T ∧ m = a + S.length ∧ SAt W0 wr ob L cap (pre ++ (S ++ y :: (T ++ post))) pb g n c D) := ⟨A, [], by simp, HML.out, by simpa using hS⟩
      have HU := Lib.hid hu
      have HV := Lib.hid hv
      have hub : u ≤ A.length := by have := HML.out; omega
      have hnn : ¬ ((a + u : Nat) : Int) < ((a + u : Nat) : Int) := by omega
      have HMU : Hid (∃ mu, mu = a + u) := ⟨_, rfl⟩
      clear hI hS hu hv
      generalize hmu : a + u = mu at *
      have HMU2 := Lib.hid hmu
      clear hmu HMU
      go_wp2_with fail
      go_loopg [17] (m - mu) (fun gh x17 wr => ∃ (k : Nat), x17 = .int .i64 (k : Int) ∧ mu ≤ k ∧ k ≤ m ∧ gh = k - mu ∧ Hid (∃ S T : List Int, A = S ++ T ∧ k = a + S.length ∧ SAt W0 wr ob L cap (pre ++ (S ++ y :: (T ++ post))) pb g n c D))
      case atStart => exact ⟨m, rfl, by omega, Nat.le_refl _, rfl, H0⟩
      case round =>
        clear H0
        obtain ⟨k, rfl, hk1, hk2, hgk, hI⟩ := hrel
        obtain ⟨S, T, hAe, hSl, hS⟩ := hI.out
        by_cases hlt2 : mu < k
        · rcases List.eq_nil_or_concat S with rfl | ⟨S', z, rfl⟩
          · have := HMU2.out; simp at hSl; omega
          · rw [List.concat_eq_append] at *
            obtain ⟨q, hq⟩ : ∃ q, q = a + S'.length := ⟨_, rfl⟩
            have hSl2 : k = q + 1 := by rw [hSl, hq]; simp; omega
            have f2 : ∀ w, pre ++ ((S' ++ [z]) ++ w :: (T ++ post)) = pre ++ (S' ++ z :: (w :: (T ++ post))) := fun w => by simp
            have hkl : k = pre.length + (S' ++ [z]).length := by rw [hSl, HA.out]
            have hql : q = pre.length + S'.length := by rw [hq, HA.out]
            obtain ⟨cx, fx⟩ := hS.cell (mid_at hkl)
            obtain ⟨cy, fy⟩ := hS.cell (j := q) (x := z) (by rw [f2]; exact mid_at hql)
            have rx := hS.rng y (by simp)
            have ry := hS.rng z (by simp)
            have HN : Hid (∃ S T : List Int, A = S ++ T ∧ q = a + S.length ∧ SAt W0 (((wr.setCell ⟨ob, k, none⟩ (.int .i64 z)).setCell ⟨ob, q, none⟩ (.int .i64 y)).drew) ob L cap (pre ++ (S ++ y :: (T ++ post))) pb g n c D) := by
              refine ⟨S', z :: T, by rw [hAe]; simp, hq, ?_⟩
              have h1 := hS.set k z ry
              rw [mid_set hkl, f2] at h1
              have h2 := (h1.set q y rx).drewN 1
              rw [mid_set hql] at h2
              exact h2
            have k1 : (k : Int) - 1 = q := by omega
            have k2 : IntKind.i64.wrap (q : Int) = q := IntWalk.i64_in _ (by omega)
            have k3 : (mu : Int) < k := by omega
            have k4 : (k : Int) < L := by omega
            have k5 : (q : Int) < L := by omega
            have k6 : ¬ k = q := by omega
            have k7 : ¬ q = k := by omega
            have k8 : mu ≤ q ∧ q ≤ m ∧ q - mu < gk := by omega
            clear hI hS hAe hSl f2 hkl hql rx ry hq hSl2
            go_wp2_with fail
            go_region
            go_wp2
            go_roundg (q - mu)
            case measure => exact k8.2.2
            case rel => exact ⟨q, by first | rfl | go_num, k8.1, k8.2.1, rfl, HN⟩
        · have hSu : S.length = u := by have := HMU2.out; omega
          have HF : Hid (Pst wr) := by
            rw [← HP.out]
            refine ⟨S ++ y :: T, ?_, ins_right (by rw [← hAe]; exact HS.out) (by rw [← hAe]; exact HC.out) (fun A' b e => ?_) (fun b A' e => ?_), by simpa using hS⟩
            · rw [hAe]; exact List.perm_middle.trans (List.perm_append_singleton y (S ++ T)).symm
            · refine HU.out b (by rw [← hSu, e]; simp) ?_
              rw [hAe, ← hSu, e]; simp
            · refine HV.out b ?_
              rw [hAe, List.getElem?_append_right (by omega), show u - S.length = 0 by omega, e]; rfl
          have hnp : ¬ (mu : Int) < k := by omega
          clear hI hS hAe hSl HP
          go_wp2
          (try simp only [Exit.inBlock, Exit.then]); refine bodyPost_ret (results_none rfl _ _ _) rfl ?_
          exact ⟨rfl, HF.out⟩
end Stb
end Go.Proofs.Ytjnjppikhdfomaa

namespace Go.Proofs.Ytjnjppikhdfomaa
open Go Go.RowKit Go.Proofs B Rng
namespace Stb
open Swp Ref

/-- Where the search ends, the two rows are cut. -/
theorem cut_of {D : List Int} {A B : List Int} {h u : Nat} (sa : lexS D A) (sb : lexS D B) (com : Com D A B) (u0 : u ≤ A.length) (u1 : u ≤ h) (u2 : h - u ≤ B.length)
    (h1 : ∀ a b, 1 ≤ u → A[u - 1]? = some a → B[h - u]? = some b → at0 D a ≤ at0 D b)
    (h2 : ∀ a b, u < h → A[u]? = some a → B[h - 1 - u]? = some b → at0 D b < at0 D a) :
    Cut D (A.take u) (A.drop u) (B.take (h - u)) (B.drop (h - u)) := by
  refine ⟨by rw [List.take_append_drop]; exact sa, by rw [List.take_append_drop]; exact sb, by rw [List.take_append_drop, List.take_append_drop]; exact com, fun A' a b B' e1 e2 => ?_, fun B' b a A' e1 e2 => ?_⟩
  · have hl : A'.length + 1 = u := by have := congrArg List.length e1; simp at this; omega
    refine h1 a b (by omega) ?_ ?_
    · have : (A.take u)[u - 1]? = some a := by rw [e1, ← hl]; simp
      rwa [List.getElem?_take, if_pos (by omega)] at this
    · have : (B.drop (h - u))[0]? = some b := by rw [e2]; rfl
      simpa using this
  · have hl : B'.length + 1 = h - u := by have := congrArg List.length e1; simp at this; omega
    refine h2 a b (by omega) ?_ ?_
    · have : (A.drop u)[0]? = some a := by rw [e2]; rfl
      simpa using this
    · have : (B.take (h - u))[h - 1 - u]? = some b := by rw [e1, show h - 1 - u = B'.length by omega]; simp
      rwa [List.getElem?_take, if_pos (by omega)] at this
end Stb
end Go.Proofs.Ytjnjppikhdfomaa

namespace Go.Proofs.Ytjnjppikhdfomaa
open Go Go.RowKit Go.Proofs B Rng
namespace Stb
open Swp Ref

/-- What symMerge does to all smaller rows. -/
def SymUpTo (W0 : World) (ob L cap : Nat) (pb g n c : Nat) (D : List Int) (N : Nat) : Prop :=
  ∀ (w : World) (pre A B post : List Int) (a m b : Nat), A.length + B.length < N → SAt W0 w ob L cap (pre ++ (A ++ (B ++ post))) pb g n c D → lexS D A → lexS D B → Com D A B → a = pre.length → m = a + A.length → b = m + B.length → 1 ≤ A.length → 1 ≤ B.length →
    Calls Try.prog 89 #[.slice (some ⟨ob, 0, none⟩) L cap, .int .i64 a, .int .i64 m, .int .i64 b, .func (.func 34) #[] #[.pointer (some ⟨pb, 0, none⟩)]] w fun e w' => e = .returned (.tuple #[]) ∧ MrgPost W0 ob L cap pb g n c D pre A B post w'

/-- The cut rows, ahead of the rotation. -/
def St0 (W0 : World) (ob L cap : Nat) (pb g n c : Nat) (D : List Int) (pre A1 A2 B1 B2 post : List Int) (V : World) : Prop := SAt W0 V ob L cap (pre ++ (A1 ++ (A2 ++ (B1 ++ (B2 ++ post))))) pb g n c D
/-- Behind it. -/
def St1 (W0 : World) (ob L cap : Nat) (pb g n c : Nat) (D : List Int) (pre A1 A2 B1 B2 post : List Int) (V : World) : Prop := SAt W0 V ob L cap (pre ++ (A1 ++ (B1 ++ (A2 ++ (B2 ++ post))))) pb g n c D
/-- The first half merged. -/
def St2 (W0 : World) (ob L cap : Nat) (pb g n c : Nat) (D : List Int) (pre A1 A2 B1 B2 post : List Int) (V : World) : Prop := SrtPost W0 ob L cap pb g n c D pre (A1 ++ B1) (A2 ++ (B2 ++ post)) V

section
variable {W0 : World} {ob L cap pb g n c : Nat} {D pre A1 A2 B1 B2 post : List Int}

theorem st1_skip {V : World} (h : St0 W0 ob L cap pb g n c D pre A1 A2 B1 B2 post V) (e : A2.length = 0 ∨ B1.length = 0) : St1 W0 ob L cap pb g n c D pre A1 A2 B1 B2 post V := by
  unfold St0 at h
  unfold St1
  rcases e with e | e
  · have := List.eq_nil_of_length_eq_zero e; subst this; simpa using h
  · have := List.eq_nil_of_length_eq_zero e; subst this; simpa using h

theorem rot_step (hL : L ≤ 1048576) {V : World} (h : St0 W0 ob L cap pb g n c D pre A1 A2 B1 B2 post V) (h1 : 1 ≤ A2.length) (h2 : 1 ≤ B1.length) (st m en : Nat) (e1 : st = pre.length + A1.length) (e2 : m = st + A2.length) (e3 : en = m + B1.length) (cf : Value) :
    Calls Try.prog 105 #[.slice (some ⟨ob, 0, none⟩) L cap, .int .i64 st, .int .i64 m, .int .i64 en, cf] V fun e w' => e = .returned (.tuple #[]) ∧ St1 W0 ob L cap pb g n c D pre A1 A2 B1 B2 post w' := by
  refine (rotate_any W0 V ob L cap (pre ++ A1) A2 B1 (B2 ++ post) pb g n c D (by unfold St0 at h; simpa using h) hL st m en (by simpa using e1) (by simp; omega) e3 h1 h2 cf).mono ?_
  rintro e w' ⟨he, hs⟩
  exact ⟨he, by unfold St1; simpa using hs⟩

theorem st2_skip {V : World} (hc : Cut D A1 A2 B1 B2) (h : St1 W0 ob L cap pb g n c D pre A1 A2 B1 B2 post V) (e : A1.length = 0 ∨ B1.length = 0) : St2 W0 ob L cap pb g n c D pre A1 A2 B1 B2 post V := by
  unfold St1 at h
  unfold St2
  obtain ⟨-, ⟨s1, s2, -⟩, -⟩ := hc.parts
  refine ⟨A1 ++ B1, List.Perm.refl _, ?_, by simpa using h⟩
  rcases e with e | e
  · have := List.eq_nil_of_length_eq_zero e; subst this; simpa using s2
  · have := List.eq_nil_of_length_eq_zero e; subst this; simpa using s1

theorem sym_step1 {N : Nat} (IH : SymUpTo W0 ob L cap pb g n c D N) {V : World} (hc : Cut D A1 A2 B1 B2) (h : St1 W0 ob L cap pb g n c D pre A1 A2 B1 B2 post V) (hN : A1.length + B1.length < N) (h1 : 1 ≤ A1.length) (h2 : 1 ≤ B1.length) (a st md : Nat) (e1 : a = pre.length) (e2 : st = a + A1.length) (e3 : md = st + B1.length) :
    Calls Try.prog 89 #[.slice (some ⟨ob, 0, none⟩) L cap, .int .i64 a, .int .i64 st, .int .i64 md, .func (.func 34) #[] #[.pointer (some ⟨pb, 0, none⟩)]] V fun e w' => e = .returned (.tuple #[]) ∧ St2 W0 ob L cap pb g n c D pre A1 A2 B1 B2 post w' := by
  obtain ⟨-, ⟨s1, s2, s3⟩, -⟩ := hc.parts
  exact IH V pre A1 B1 (A2 ++ (B2 ++ post)) a st md hN h s1 s2 s3 e1 e2 e3 h1 h2

theorem st2_len {V : World} (h : St2 W0 ob L cap pb g n c D pre A1 A2 B1 B2 post V) : ∃ M1, M1.Perm (A1 ++ B1) ∧ lexS D M1 ∧ SAt W0 V ob L cap ((pre ++ M1) ++ (A2 ++ (B2 ++ post))) pb g n c D := by
  obtain ⟨M1, p1, s1, hS⟩ := h
  exact ⟨M1, p1, s1, by rw [List.append_assoc]; exact hS⟩

theorem st3_skip {V : World} (hc : Cut D A1 A2 B1 B2) (h : St2 W0 ob L cap pb g n c D pre A1 A2 B1 B2 post V) (e : A2.length = 0 ∨ B2.length = 0) : MrgPost W0 ob L cap pb g n c D pre (A1 ++ A2) (B1 ++ B2) post V := by
  obtain ⟨M1, p1, s1, hS⟩ := h
  obtain ⟨-, -, ⟨t1, t2, -⟩⟩ := hc.parts
  have s2 : lexS D (A2 ++ B2) := by
    rcases e with e | e
    · have := List.eq_nil_of_length_eq_zero e; subst this; simpa using t2
    · have := List.eq_nil_of_length_eq_zero e; subst this; simpa using t1
  obtain ⟨j1, j2⟩ := hc.join p1 (List.Perm.refl (A2 ++ B2)) s1 s2
  exact ⟨M1 ++ (A2 ++ B2), j2, j1, by simpa using hS⟩

theorem sym_step2 {N : Nat} (IH : SymUpTo W0 ob L cap pb g n c D N) {V : World} (hc : Cut D A1 A2 B1 B2) (h : St2 W0 ob L cap pb g n c D pre A1 A2 B1 B2 post V) (hN : A2.length + B2.length < N) (h1 : 1 ≤ A2.length) (h2 : 1 ≤ B2.length) (md en b : Nat) (e1 : md = pre.length + (A1.length + B1.length)) (e2 : en = md + A2.length) (e3 : b = en + B2.length) :
    Calls Try.prog 89 #[.slice (some ⟨ob, 0, none⟩) L cap, .int .i64 md, .int .i64 en, .int .i64 b, .func (.func 34) #[] #[.pointer (some ⟨pb, 0, none⟩)]] V fun e w' => e = .returned (.tuple #[]) ∧ MrgPost W0 ob L cap pb g n c D pre (A1 ++ A2) (B1 ++ B2) post w' := by
  obtain ⟨M1, p1, s1, hS⟩ := st2_len h
  obtain ⟨-, -, ⟨t1, t2, t3⟩⟩ := hc.parts
  have hl := p1.length_eq
  rw [List.length_append] at hl
  refine (IH V (pre ++ M1) A2 B2 post md en b hN hS t1 t2 t3 (by rw [List.length_append]; omega) e2 e3 h1 h2).mono ?_
  rintro e w' ⟨he, M2, p2, s2, hS2⟩
  obtain ⟨j1, j2⟩ := hc.join p1 p2 s1 s2
  exact ⟨he, M1 ++ M2, j2, j1, by simpa using hS2⟩
end
end Stb
end Go.Proofs.Ytjnjppikhdfomaa

namespace Go.Proofs.Ytjnjppikhdfomaa
open Go Go.RowKit Go.Proofs B Rng
namespace Stb
open Swp Ref

def AllLt (A B : List Int) : Prop := ∀ p ∈ A, ∀ q ∈ B, p < q

theorem AllLt.com {D A B : List Int} (h : AllLt A B) : Com D A B := fun p hp q hq _ => h p hp q hq
theorem AllLt.perm {A A' B : List Int} (h : AllLt A B) (k : A'.Perm A) : AllLt A' B := fun p hp q hq => h p (k.mem_iff.1 hp) q hq
theorem AllLt.perm2 {A B B' : List Int} (h : AllLt A B) (k : B'.Perm B) : AllLt A B' := fun p hp q hq => h p hp q (k.mem_iff.1 hq)
theorem AllLt.left {A A' B : List Int} (h : AllLt (A ++ A') B) : AllLt A B := fun p hp q hq => h p (by simp [hp]) q hq
theorem AllLt.right {A A' B : List Int} (h : AllLt (A ++ A') B) : AllLt A' B := fun p hp q hq => h p (by simp [hp]) q hq
theorem AllLt.fst {A B B' : List Int} (h : AllLt A (B ++ B')) : AllLt A B := fun p hp q hq => h p hp q (by simp [hq])
theorem AllLt.snd {A B B' : List Int} (h : AllLt A (B ++ B')) : AllLt A B' := fun p hp q hq => h p hp q (by simp [hq])
theorem AllLt.app {A B C : List Int} (h : AllLt A C) (k : AllLt B C) : AllLt (A ++ B) C := fun p hp q hq => (List.mem_append.1 hp).elim (fun x => h p x q hq) (fun x => k p x q hq)
theorem AllLt.app2 {A B C : List Int} (h : AllLt A B) (k : AllLt A C) : AllLt A (B ++ C) := fun p hp q hq => (List.mem_append.1 hq).elim (fun x => h p hp q x) (fun x => k p hp q x)

/-- Rows of s, each sorted, all of one less than all of the next. -/
inductive Bl (D : List Int) (s : Nat) : List Int → Prop
  | last (Y : List Int) : Y.length ≤ s → lexS D Y → Bl D s Y
  | cons (A Y : List Int) : A.length = s → lexS D A → AllLt A Y → Bl D s Y → Bl D s (A ++ Y)

theorem Bl.nil (D : List Int) (s : Nat) : Bl D s [] := .last [] (Nat.zero_le _) List.Pairwise.nil

theorem Bl.short {D : List Int} {s : Nat} {Y : List Int} (h : Bl D s Y) (hl : Y.length ≤ s) : lexS D Y := by
  cases h with
  | last _ h1 h2 => exact h2
  | cons A Y h1 h2 h3 h4 =>
    have : Y = [] := List.eq_nil_of_length_eq_zero (by rw [List.length_append] at hl; omega)
    subst this; simpa using h2

theorem Bl.head {D : List Int} {s : Nat} {Y : List Int} (h : Bl D s Y) (hl : s ≤ Y.length) : ∃ A R, Y = A ++ R ∧ A.length = s ∧ lexS D A ∧ AllLt A R ∧ Bl D s R := by
  cases h with
  | last _ h1 h2 => exact ⟨Y, [], by simp, by omega, h2, fun p _ q hq => by simp at hq, Bl.nil D s⟩
  | cons A Y h1 h2 h3 h4 => exact ⟨A, Y, rfl, h1, h2, h3, h4⟩

/-- What is done already: rows of s that may be put ahead. -/
def Acc (D : List Int) (s : Nat) (P : List Int) : Prop := ∀ Z, AllLt P Z → Bl D s Z → Bl D s (P ++ Z)

theorem Acc.nil (D : List Int) (s : Nat) : Acc D s [] := fun Z _ h => h
theorem Acc.snoc {D : List Int} {s : Nat} {P M : List Int} (h : Acc D s P) (hl : M.length = s) (hs : lexS D M) (hlt : AllLt P M) : Acc D s (P ++ M) := by
  intro Z hz hb
  rw [List.append_assoc]
  exact h _ (hlt.app2 hz.left) (.cons M Z hl hs hz.right hb)

/-- A pass over rows of s that makes rows of 2 s: P is done, Q is to come. -/
structure Pas (D : List Int) (s : Nat) (X P Q : List Int) : Prop where
  acc : Acc D (2 * s) P
  rest : Bl D s Q
  lt : AllLt P Q
  perm : (P ++ Q).Perm X

theorem Pas.start {D : List Int} {s : Nat} {X Y : List Int} (h : Bl D s Y) (p : Y.Perm X) : Pas D s X [] Y := ⟨Acc.nil _ _, h, fun p hp => by simp at hp, p⟩

/-- Two rows more. -/
theorem Pas.two {D : List Int} {s : Nat} {X P Q : List Int} (h : Pas D s X P Q) (hl : 2 * s ≤ Q.length) : ∃ A B R, Q = A ++ (B ++ R) ∧ A.length = s ∧ B.length = s ∧ lexS D A ∧ lexS D B ∧ Com D A B ∧ ∀ M, M.Perm (A ++ B) → lexS D M → Pas D s X (P ++ M) R := by
  obtain ⟨A, Q', rfl, hA, sA, lA, hQ'⟩ := h.rest.head (by omega)
  obtain ⟨B, R, rfl, hB, sB, lB, hR⟩ := hQ'.head (by rw [List.length_append] at hl; omega)
  refine ⟨A, B, R, rfl, hA, hB, sA, sB, lA.fst.com, fun M hM sM => ?_⟩
  have hPM : AllLt P M := (h.lt.fst.app2 h.lt.snd.fst).perm2 hM
  refine ⟨h.acc.snoc (by rw [hM.length_eq, List.length_append]; omega) sM hPM, hR, h.lt.snd.snd.app ((lA.snd.app lB).perm hM), ?_⟩
  refine List.Perm.trans ?_ h.perm
  rw [List.append_assoc]
  refine List.Perm.append_left P ?_
  rw [← List.append_assoc A B R]
  exact hM.append_right R

/-- The end of a pass: one row and a part of another one. -/
theorem Pas.end2 {D : List Int} {s : Nat} {X P Q : List Int} (h : Pas D s X P Q) (h1 : s < Q.length) (h2 : Q.length < 2 * s) : ∃ A B, Q = A ++ B ∧ A.length = s ∧ 1 ≤ B.length ∧ lexS D A ∧ lexS D B ∧ Com D A B ∧ ∀ M, M.Perm (A ++ B) → lexS D M → Bl D (2 * s) (P ++ M) ∧ (P ++ M).Perm X := by
  obtain ⟨A, R, rfl, hA, sA, lA, hR⟩ := h.rest.head (by omega)
  rw [List.length_append] at h1 h2
  refine ⟨A, R, rfl, hA, by omega, sA, hR.short (by omega), lA.com, fun M hM sM => ⟨h.acc M (h.lt.perm2 hM) (.last M (by rw [hM.length_eq, List.length_append]; omega) sM), ?_⟩⟩
  exact (hM.append_left P).trans h.perm
theorem Pas.end1 {D : List Int} {s : Nat} {X P Q : List Int} (h : Pas D s X P Q) (h1 : Q.length ≤ s) : Bl D (2 * s) (P ++ Q) ∧ (P ++ Q).Perm X :=
  ⟨h.acc Q h.lt (.last Q (by omega) (h.rest.short h1)), h.perm⟩

/-- The first pass: rows of 20, each sorted by insertion. -/
structure Fst (D : List Int) (s : Nat) (X P Q : List Int) : Prop where
  acc : Acc D s P
  up : Q.Pairwise (· < ·)
  lt : AllLt P Q
  perm : (P ++ Q).Perm X

theorem Fst.start {D : List Int} {s : Nat} {X : List Int} (h : X.Pairwise (· < ·)) : Fst D s X [] X := ⟨Acc.nil _ _, h, fun p hp => by simp at hp, List.Perm.refl _⟩
theorem Fst.step {D : List Int} {s : Nat} {X P Q : List Int} (h : Fst D s X P Q) (hl : s ≤ Q.length) : ∃ A R, Q = A ++ R ∧ A.length = s ∧ A.Pairwise (· < ·) ∧ ∀ M, M.Perm A → lexS D M → Fst D s X (P ++ M) R := by
  obtain ⟨A, R, rfl, hA⟩ : ∃ A R, Q = A ++ R ∧ A.length = s := ⟨Q.take s, Q.drop s, (List.take_append_drop s Q).symm, by rw [List.length_take]; omega⟩
  have hu := h.up
  rw [List.pairwise_append] at hu
  refine ⟨A, R, rfl, hA, hu.1, fun M hM sM => ⟨h.acc.snoc (by rw [hM.length_eq]; exact hA) sM (h.lt.fst.perm2 hM), hu.2.1, h.lt.snd.app (AllLt.perm hu.2.2 hM), ?_⟩⟩
  refine List.Perm.trans ?_ h.perm
  rw [List.append_assoc]
  exact List.Perm.append_left P (hM.append_right R)
theorem Fst.done {D : List Int} {s : Nat} {X P Q M : List Int} (h : Fst D s X P Q) (hl : Q.length ≤ s) (hM : M.Perm Q) (sM : lexS D M) : Bl D s (P ++ M) ∧ (P ++ M).Perm X :=
  ⟨h.acc M (h.lt.perm2 hM) (.last M (by rw [hM.length_eq]; exact hl) sM), (hM.append_left P).trans h.perm⟩
end Stb
end Go.Proofs.Ytjnjppikhdfomaa
