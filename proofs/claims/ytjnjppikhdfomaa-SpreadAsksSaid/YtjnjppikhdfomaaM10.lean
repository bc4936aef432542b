import Derived.Test.YtjnjppikhdfomaaM9
import Derived.Deep.DeepCutAuto
set_option linter.unusedVariables false
set_option linter.unusedSimpArgs false

namespace Go.Proofs.Ytjnjppikhdfomaa
open Go Go.RowKit Go.Proofs B Rng
namespace Stb
open Swp Ref

/-- The search for the cut: what is known on its left, on its right. -/
def SLow (D A B : List Int) (hx u0 u : Nat) : Prop := ∀ x y, u0 < u → A[u - 1]? = some x → B[hx - u]? = some y → at0 D x ≤ at0 D y
def SHigh (D A B : List Int) (hx v0 v : Nat) : Prop := ∀ x y, v < v0 → A[v]? = some x → B[hx - 1 - v]? = some y → at0 D y < at0 D x

theorem s_cut {D A B : List Int} {hx u u0 v0 : Nat} (sa : lexS D A) (sb : lexS D B) (com : Com D A B) (e0 : u0 = hx - B.length) (e1 : v0 = min hx A.length) (h0 : u0 ≤ u) (h1 : u ≤ v0) (l : SLow D A B hx u0 u) (r : SHigh D A B hx v0 u) : Cut D (A.take u) (A.drop u) (B.take (hx - u)) (B.drop (hx - u)) := by
  refine cut_of sa sb com (by omega) (by omega) (by omega) (fun a b hu ha hb => ?_) (fun a b hu ha hb => ?_)
  · by_cases e : u0 < u
    · exact l a b e ha hb
    · have := (List.getElem?_eq_some_iff.1 hb).1; omega
  · by_cases e : u < v0
    · exact r a b e ha hb
    · have := (List.getElem?_eq_some_iff.1 ha).1; omega

set_option maxRecDepth 100000 in
set_option maxHeartbeats 8000000 in
theorem sym_rec (W0 w : World) (ob L cap : Nat) (pre A B post : List Int) (pb g n c : Nat) (D : List Int) (N : Nat) (IH : SymUpTo W0 ob L cap pb g n c D N) (h : SAt W0 w ob L cap (pre ++ (A ++ (B ++ post))) pb g n c D) (hA : lexS D A) (hB : lexS D B) (hC : Com D A B) (hL : L ≤ 1048576) (hn : n ≤ 1048576) (a m b : Nat) (ha : a = pre.length) (hm : m = a + A.length) (hb : b = m + B.length) (hA2 : 2 ≤ A.length) (hB2 : 2 ≤ B.length) (hN : A.length + B.length ≤ N) :
    Calls Try.prog 89 #[.slice (some ⟨ob, 0, none⟩) L cap, .int .i64 a, .int .i64 m, .int .i64 b, .func (.func 34) #[] #[.pointer (some ⟨pb, 0, none⟩)]] w fun e w' => e = .returned (.tuple #[]) ∧ MrgPost W0 ob L cap pb g n c D pre A B post w' := by
  have hlen := h.len
  have hbL : b ≤ L := by simp at hlen; omega
  obtain ⟨k0, hk0⟩ : ∃ k0, k0 = A.length := ⟨_, rfl⟩
  obtain ⟨k1, hk1⟩ : ∃ k1, k1 = B.length := ⟨_, rfl⟩
  obtain ⟨hx, hhx⟩ : ∃ hx, hx = (k0 + k1) / 2 := ⟨_, rfl⟩
  obtain ⟨md, hmd⟩ : ∃ md, md = a + hx := ⟨_, rfl⟩
  obtain ⟨nn, hnn⟩ : ∃ nn, nn = md + m := ⟨_, rfl⟩
  obtain ⟨pp, hpp⟩ : ∃ pp, pp = nn - 1 := ⟨_, rfl⟩
  obtain ⟨u0, hu0⟩ : ∃ u0, u0 = hx - k1 := ⟨_, rfl⟩
  obtain ⟨v0, hv0⟩ : ∃ v0, v0 = min hx k0 := ⟨_, rfl⟩
  obtain ⟨s0, hs0⟩ : ∃ s0, s0 = a + u0 := ⟨_, rfl⟩
  have HH := Lib.hid h
  have HPRE := Lib.hid ha
  have HML := Lib.hid hm
  have HBL := Lib.hid hb
  have HK0 := Lib.hid hk0
  have HK1 := Lib.hid hk1
  have HMD := Lib.hid hmd
  have HS := Lib.hid (And.intro hA (And.intro hB hC))
  have HIH := Lib.hid IH
  have HHX := Lib.hid hhx
  have HNN := Lib.hid hnn
  have HPP := Lib.hid hpp
  have HU0 := Lib.hid hu0
  have HV0 := Lib.hid hv0
  have e0 : (m : Int) - a = k0 := by omega
  have e00 : IntKind.i64.wrap (k0 : Int) = k0 := IntWalk.i64_in _ (by omega)
  have e01 : ((k0 : Int) == 1) = false := by simp; omega
  have e02 : ¬ (k0 : Int) = 1 := by omega
  have e1 : (b : Int) - m = k1 := by omega
  have e10 : IntKind.i64.wrap (k1 : Int) = k1 := IntWalk.i64_in _ (by omega)
  have e11 : ((k1 : Int) == 1) = false := by simp; omega
  have e12 : ¬ (k1 : Int) = 1 := by omega
  have emd : ((a : Int) + b) / 2 = md := by omega
  have enn : (md : Int) + m = nn := by omega
  have epp : (nn : Int) - 1 = pp := by omega
  have b1 : a ≤ md ∧ md ≤ b ∧ m ≤ b ∧ nn ≤ 4194304 ∧ pp ≤ 4194304 ∧ 1 ≤ nn := by omega
  have b2 : u0 ≤ v0 ∧ a + v0 ≤ m ∧ a + v0 ≤ md := by omega
  have HNEG : Hid (m > md → (nn : Int) - b = s0 ∧ v0 = hx) := fun h => by omega
  have HPOS : Hid (¬ m > md → u0 = 0 ∧ v0 = k0) := fun h => by omega
  generalize hpost : MrgPost W0 ob L cap pb g n c D pre A B post = Pst at *
  have HP := Lib.hid hpost
  clear h hA hB hC hlen hpost ha hb hm hk0 hk1 hhx hmd hnn hpp hu0 hv0 IH
  have HS0 := Lib.hid hs0
  have HVV : Hid (v0 ≤ hx ∧ v0 ≤ k0 ∧ hx ≤ u0 + k1) := by have := HV0.out; have := HU0.out; show _ ∧ _ ∧ _; omega
  have HSC := Lib.hid (fun (u : Nat) (h0 : u0 ≤ u) (h1 : u ≤ v0) (l : SLow D A B hx u0 u) (r : SHigh D A B hx v0 u) => s_cut HS.out.1 HS.out.2.1 HS.out.2.2 (by rw [← HK1.out]; exact HU0.out) (by rw [← HK0.out]; exact HV0.out) h0 h1 l r)
  clear hs0
  go_enter Try.func89, Try.ntmps89
  go_upto_if 140 with fail
  go_cut [20, 21] from 135 to 148 (fun x20 x21 wx => x20 = .int .i64 ((a + u0 : Nat) : Int) ∧ x21 = .int .i64 ((a + v0 : Nat) : Int) ∧ wx = w)
  case first =>
    rcases Nat.lt_or_ge md m with hlt | hge
    · obtain ⟨es, ev⟩ := HNEG.out hlt
      have HST : Hid (s0 = a + u0 ∧ md = a + v0) := by have := HMD.out; have := HS0.out; show _ ∧ _; omega
      have c1 : (md : Int) < m := by omega
      clear ev HNEG HPOS
      go_wp2_with fail
      go_meet
      exact ⟨by rw [HST.out.1], by rw [← HST.out.2], rfl⟩
    · obtain ⟨eu, ev⟩ := HPOS.out (by omega)
      have HST : Hid (a = a + u0 ∧ m = a + v0) := by have := HML.out; have := HK0.out; show _ ∧ _; omega
      have c1 : ¬ (md : Int) < m := by omega
      clear eu ev HNEG HPOS
      go_wp2_with fail
      go_meet
      exact ⟨by rw [← HST.out.1], by rw [← HST.out.2], rfl⟩
  case rest =>
    obtain ⟨rfl, rfl, rfl⟩ := hcut
    clear HNEG HPOS HS0
    go_wp2_with fail
    go_loopg [20, 21] (v0 - u0) (fun gh x20 x21 wr => ∃ (u v : Nat), x20 = .int .i64 ((a + u : Nat) : Int) ∧ x21 = .int .i64 ((a + v : Nat) : Int) ∧ u0 ≤ u ∧ u ≤ v ∧ v ≤ v0 ∧ gh = v - u ∧ Hid (SAt W0 wr ob L cap (pre ++ (A ++ (B ++ post))) pb g n c D ∧ SLow D A B hx u0 u ∧ SHigh D A B hx v0 v))
    case atStart => exact ⟨u0, v0, rfl, rfl, Nat.le_refl _, b2.1, Nat.le_refl _, rfl, HH.out, fun x y h => by omega, fun x y h => by omega⟩
    case round =>
      clear HH
      obtain ⟨u, v, rfl, rfl, h1, h2, h3, hg, hI⟩ := hrel
      by_cases hlt : u < v
      · obtain ⟨hS, hu, hv⟩ := hI.out
        obtain ⟨cc, hcc⟩ : ∃ cc, cc = (a + u + (a + v)) / 2 := ⟨_, rfl⟩
        obtain ⟨t, ht⟩ : ∃ t, cc = a + t := ⟨cc - a, by omega⟩
        have htu : u ≤ t ∧ t < v := by omega
        obtain ⟨q, hq⟩ : ∃ q, q = pp - cc := ⟨_, rfl⟩
        obtain ⟨r, hr⟩ : ∃ r, r = hx - 1 - t := ⟨_, rfl⟩
        have hvv := HVV.out
        have hqr : q = m + r := by have := HPP.out; have := HNN.out; have := HMD.out; omega
        have hrB : r < B.length := by have := HK1.out; omega
        have htA : t < A.length := by have := HK0.out; omega
        have hxA : A[t]? = some A[t] := List.getElem?_eq_getElem htA
        have hyB : B[r]? = some B[r] := List.getElem?_eq_getElem hrB
        generalize A[t] = x at hxA
        generalize B[r] = y at hyB
        have hX : (pre ++ (A ++ (B ++ post)))[cc]? = some x := by
          rw [List.getElem?_append_right (by have := HPRE.out; omega), List.getElem?_append_left (by have := HPRE.out; omega), show cc - pre.length = t by have := HPRE.out; omega]; exact hxA
        have hY : (pre ++ (A ++ (B ++ post)))[q]? = some y := by
          have := HPRE.out; have := HML.out
          rw [List.getElem?_append_right (by omega), List.getElem?_append_right (by omega), List.getElem?_append_left (by omega), show q - pre.length - A.length = r by omega]; exact hyB
        obtain ⟨cx, -⟩ := hS.cell hX
        obtain ⟨cy, -⟩ := hS.cell hY
        obtain ⟨x0, x1⟩ := hS.rng x (List.mem_of_getElem? hX)
        obtain ⟨y0, y1⟩ := hS.rng y (List.mem_of_getElem? hY)
        have HCL := Lib.hid (fun z : Nat => closure_any pb g n c D y x (wr.drewN z) hS.cp (hS.dist y y0 y1) (hS.dist x x0 x1) y0 y1 x0 x1 hn)
        have eh : (((a + u : Nat) : Int) + ((a + v : Nat) : Int)) / 2 = cc := by omega
        have eq : (pp : Int) - cc = q := by omega
        have eqw : IntKind.i64.wrap (q : Int) = q := IntWalk.i64_in _ (by omega)
        have i1 : ((a + u : Nat) : Int) < ((a + v : Nat) : Int) := by omega
        have i2 : (cc : Int) < L := by have := HML.out; omega
        have i3 : (q : Int) < L := by have := HML.out; have := HBL.out; have := HK1.out; omega
        have HSn : Hid (∀ z, SAt W0 (wr.drewN z) ob L cap (pre ++ (A ++ (B ++ post))) pb g n c D) := fun z => hS.drewN z
        have HR := Lib.hid hr
        have HXY := Lib.hid (And.intro hxA hyB)
        have HU := Lib.hid hu
        have HV := Lib.hid hv
        generalize hmu : a + u = mu at *
        generalize hmv : a + v = mv at *
        have HTT := Lib.hid ht
        have HMU := Lib.hid hmu
        have HMV := Lib.hid hmv
        clear ht hmu hmv hcc hq hr hqr hrB htA hxA hyB hX hY hS hu hv hI hvv
        by_cases hcmp : at0 D y < at0 D x
        · have hc : cmpI (at0 D y) (at0 D x) < 0 := (cmpI_neg _ _).2 hcmp
          have HI2 : Hid (∀ z, SAt W0 (wr.drewN z) ob L cap (pre ++ (A ++ (B ++ post))) pb g n c D ∧ SLow D A B hx u0 u ∧ SHigh D A B hx v0 t) := fun z => ⟨HSn.out z, HU.out, fun x' y' _ ha hb => by
            rw [HXY.out.1] at ha; rw [← HR.out, HXY.out.2] at hb; injection ha with ha; injection hb with hb; rw [← ha, ← hb]; exact hcmp⟩
          generalize cmpI (at0 D y) (at0 D x) = cv at *
          clear HSn HU HV HXY HR
          go_wp2_with fail
          go_quiet ((go_at_call 34; exact Calls.quiet_of (HCL.out _)))
          go_wp2
          go_roundg (t - u)
          case measure => omega
          case rel => exact ⟨u, t, by rw [HMU.out], by rw [HTT.out], h1, htu.1, by omega, rfl, HI2.out nq⟩
        · have hc : ¬ cmpI (at0 D y) (at0 D x) < 0 := fun h => hcmp ((cmpI_neg _ _).1 h)
          have hcd : decide (cmpI (at0 D y) (at0 D x) < 0) = false := by simpa using hc
          have HI2 : Hid (∀ z, SAt W0 (wr.drewN z) ob L cap (pre ++ (A ++ (B ++ post))) pb g n c D ∧ SLow D A B hx u0 (t + 1) ∧ SHigh D A B hx v0 v) := fun z => ⟨HSn.out z, fun x' y' _ ha hb => by
            rw [Nat.add_sub_cancel, HXY.out.1] at ha; rw [show hx - (t + 1) = hx - 1 - t by omega, ← HR.out, HXY.out.2] at hb; injection ha with ha; injection hb with hb; rw [← ha, ← hb]; omega, HV.out⟩
          generalize cmpI (at0 D y) (at0 D x) = cv at *
          clear HSn HU HV HXY HR
          go_wp2_with fail
          go_quiet ((go_at_call 34; exact Calls.quiet_of (HCL.out _)))
          go_wp2
          go_roundg (v - (t + 1))
          case measure => omega
          case rel => exact ⟨t + 1, v, by rw [show ((a + (t + 1) : Nat) : Int) = (cc : Int) + 1 by have := HTT.out; omega], by rw [HMV.out], by omega, by omega, h3, rfl, HI2.out nq⟩
      · obtain rfl : u = v := by omega
        obtain ⟨hS, hu, hv⟩ := hI.out
        have hvv := HVV.out
        have hcut := HSC.out u h1 h3 hu hv
        obtain ⟨A1, hA1⟩ : ∃ A1, A1 = A.take u := ⟨_, rfl⟩
        obtain ⟨A2, hA2⟩ : ∃ A2, A2 = A.drop u := ⟨_, rfl⟩
        obtain ⟨B1, hB1⟩ : ∃ B1, B1 = B.take (hx - u) := ⟨_, rfl⟩
        obtain ⟨B2, hB2⟩ : ∃ B2, B2 = B.drop (hx - u) := ⟨_, rfl⟩
        rw [← hA1, ← hA2, ← hB1, ← hB2] at hcut
        have eA : A = A1 ++ A2 := by rw [hA1, hA2, List.take_append_drop]
        have eB : B = B1 ++ B2 := by rw [hB1, hB2, List.take_append_drop]
        have l1 : A1.length = u := by rw [hA1, List.length_take]; have := HK0.out; omega
        have l2 : A2.length = k0 - u := by rw [hA2, List.length_drop]; have := HK0.out; omega
        have l3 : B1.length = hx - u := by rw [hB1, List.length_take]; have := HK1.out; omega
        have l4 : B2.length = k1 - (hx - u) := by rw [hB2, List.length_drop]; have := HK1.out; omega
        obtain ⟨st, hst⟩ : ∃ st, st = a + u := ⟨_, rfl⟩
        obtain ⟨en, hen⟩ : ∃ en, en = nn - st := ⟨_, rfl⟩
        have q1 : st = a + A1.length := by omega
        have q2 : m = st + A2.length := by have := HML.out; have := HK0.out; omega
        have q3 : en = m + B1.length := by have := HNN.out; have := HMD.out; omega
        have q4 : md = st + B1.length := by have := HMD.out; omega
        have q5 : en = md + A2.length := by omega
        have q6 : b = en + B2.length := by have := HBL.out; have := HK1.out; omega
        have hpr := HPRE.out
        have H0 : Hid (St0 W0 ob L cap pb g n c D pre A1 A2 B1 B2 post wr) := Lib.hid (by unfold St0; rw [eA, eB] at hS; simpa using hS)
        have R1 := Lib.hid (fun (V : World) (h : St0 W0 ob L cap pb g n c D pre A1 A2 B1 B2 post V) (e : ¬ (st < m ∧ m < en)) => st1_skip h (by omega))
        have R2 := Lib.hid (fun (V : World) (h : St0 W0 ob L cap pb g n c D pre A1 A2 B1 B2 post V) (e : st < m ∧ m < en) => rot_step hL h (by omega) (by omega) st m en (by omega) q2 q3 (.func (.func 34) #[] #[.pointer (some ⟨pb, 0, none⟩)]))
        have R3 := Lib.hid (fun (V : World) (h : St1 W0 ob L cap pb g n c D pre A1 A2 B1 B2 post V) (e : ¬ (a < st ∧ st < md)) => st2_skip hcut h (by omega))
        have R4 := Lib.hid (fun (V : World) (h : St1 W0 ob L cap pb g n c D pre A1 A2 B1 B2 post V) (e : a < st ∧ st < md) => sym_step1 HIH.out hcut h (by have := HK0.out; have := HK1.out; omega) (by omega) (by omega) a st md hpr q1 q4)
        have R5 := Lib.hid (fun (V : World) (h : St2 W0 ob L cap pb g n c D pre A1 A2 B1 B2 post V) (e : ¬ (md < en ∧ en < b)) => st3_skip hcut h (by omega))
        have R6 := Lib.hid (fun (V : World) (h : St2 W0 ob L cap pb g n c D pre A1 A2 B1 B2 post V) (e : md < en ∧ en < b) => sym_step2 HIH.out hcut h (by have := HK0.out; have := HK1.out; omega) (by omega) (by omega) md en b (by omega) q5 q6)
        rw [← eA, ← eB, HP.out] at R5 R6
        have een : (nn : Int) - st = en := by have := HNN.out; omega
        have eew : IntKind.i64.wrap (en : Int) = en := IntWalk.i64_in _ (by omega)
        have hnn : ¬ (st : Int) < st := by omega
        rw [← hst]
        clear hI hS hu hv hcut hA1 hA2 hB1 hB2 eA eB l1 l2 l3 l4 hst hen q1 q2 q3 q4 q5 q6 hpr HIH HS HSC HP HVV h1 h2 h3 hg hvv
        obtain ⟨b1', hb1'⟩ : ∃ bb, bb = decide (st < m ∧ m < en) := ⟨_, rfl⟩
        obtain ⟨b2', hb2'⟩ : ∃ bb, bb = decide (a < st ∧ st < md) := ⟨_, rfl⟩
        obtain ⟨b3', hb3'⟩ : ∃ bb, bb = decide (md < en ∧ en < b) := ⟨_, rfl⟩
        have HB1 := Lib.hid hb1'
        have HB2 := Lib.hid hb2'
        have HB3 := Lib.hid hb3'
        clear hb1' hb2' hb3'
        go_upto_region 39 with fail
        go_cut [185] from 178 to 185 (fun t wx => t = .bool b1' ∧ wx = wr)
        case first =>
          by_cases h1 : st < m
          · have f1 : (st : Int) < m := by omega
            by_cases h2 : m < en
            · have f2 : (m : Int) < en := by omega
              go_wp2_with fail
              go_meet
              exact ⟨by rw [HB1.out, decide_eq_true ⟨h1, h2⟩], rfl⟩
            · have f2 : ¬ (m : Int) < en := by omega
              go_wp2_with fail
              go_meet
              exact ⟨by rw [HB1.out, decide_eq_false (fun h => h2 h.2)], rfl⟩
          · have f1 : ¬ (st : Int) < m := by omega
            go_wp2_with fail
            go_meet
            exact ⟨by rw [HB1.out, decide_eq_false (fun h => h1 h.1)], rfl⟩
        case rest =>
        obtain ⟨rfl, rfl⟩ := hcut
        go_upto_if 185 with fail
        go_cut [] from 178 to 191 (fun wx => Hid (St1 W0 ob L cap pb g n c D pre A1 A2 B1 B2 post wx))
        case first =>
          cases b1' with
          | true =>
            have HC := Lib.hid (R2.out _ H0.out (of_decide_eq_true HB1.out.symm))
            go_wp2_with fail
            refine (HC.out).mono ?_
            rintro e w' ⟨rfl, hs⟩
            have HS := Lib.hid hs
            clear hs HC
            go_wp2_with fail
            go_meet
            exact HS
          | false =>
            have HS := Lib.hid (R1.out _ H0.out (of_decide_eq_false HB1.out.symm))
            go_wp2_with fail
            go_meet
            exact HS
        case rest =>
        have H1 := hcut
        clear hcut H0 R1 R2 HB1
        go_upto_region 41 with fail
        go_cut [199] from 192 to 199 (fun t wx => t = .bool b2' ∧ wx = wc)
        case first =>
          by_cases h1 : a < st
          · have f1 : (a : Int) < st := by omega
            by_cases h2 : st < md
            · have f2 : (st : Int) < md := by omega
              go_wp2_with fail
              go_meet
              exact ⟨by rw [HB2.out, decide_eq_true ⟨h1, h2⟩], rfl⟩
            · have f2 : ¬ (st : Int) < md := by omega
              go_wp2_with fail
              go_meet
              exact ⟨by rw [HB2.out, decide_eq_false (fun h => h2 h.2)], rfl⟩
          · have f1 : ¬ (a : Int) < st := by omega
            go_wp2_with fail
            go_meet
            exact ⟨by rw [HB2.out, decide_eq_false (fun h => h1 h.1)], rfl⟩
        case rest =>
        obtain ⟨rfl, rfl⟩ := hcut
        go_upto_if 199 with fail
        go_cut [] from 192 to 205 (fun wx => Hid (St2 W0 ob L cap pb g n c D pre A1 A2 B1 B2 post wx))
        case first =>
          cases b2' with
          | true =>
            have HC := Lib.hid (R4.out _ H1.out (of_decide_eq_true HB2.out.symm))
            go_wp2_with fail
            refine (HC.out).mono ?_
            rintro e w' ⟨rfl, hs⟩
            have HS := Lib.hid hs
            clear hs HC
            go_wp2_with fail
            go_meet
            exact HS
          | false =>
            have HS := Lib.hid (R3.out _ H1.out (of_decide_eq_false HB2.out.symm))
            go_wp2_with fail
            go_meet
            exact HS
        case rest =>
        have H2 := hcut
        clear hcut H1 R3 R4 HB2
        go_upto_region 43 with fail
        go_cut [213] from 206 to 213 (fun t wx => t = .bool b3' ∧ wx = wc)
        case first =>
          by_cases h1 : md < en
          · have f1 : (md : Int) < en := by omega
            by_cases h2 : en < b
            · have f2 : (en : Int) < b := by omega
              go_wp2_with fail
              go_meet
              exact ⟨by rw [HB3.out, decide_eq_true ⟨h1, h2⟩], rfl⟩
            · have f2 : ¬ (en : Int) < b := by omega
              go_wp2_with fail
              go_meet
              exact ⟨by rw [HB3.out, decide_eq_false (fun h => h2 h.2)], rfl⟩
          · have f1 : ¬ (md : Int) < en := by omega
            go_wp2_with fail
            go_meet
            exact ⟨by rw [HB3.out, decide_eq_false (fun h => h1 h.1)], rfl⟩
        case rest =>
        obtain ⟨rfl, rfl⟩ := hcut
        cases b3' with
        | true =>
          have HC := Lib.hid (R6.out _ H2.out (of_decide_eq_true HB3.out.symm))
          go_wp2_with fail
          refine (HC.out).mono ?_
          rintro e w' ⟨rfl, hs⟩
          have HS := Lib.hid hs
          clear hs HC R5 R6 H2 HB3
          go_wp2_with fail
          go_end0
          exact ⟨rfl, HS.out⟩
        | false =>
          have HS := Lib.hid (R5.out _ H2.out (of_decide_eq_false HB3.out.symm))
          clear R5 R6 H2 HB3
          go_wp2_with fail
          go_end0
          exact ⟨rfl, HS.out⟩

theorem sym_upto (W0 : World) (ob L cap : Nat) (pb g n c : Nat) (D : List Int) (hL : L ≤ 1048576) (hn : n ≤ 1048576) (N : Nat) : SymUpTo W0 ob L cap pb g n c D N := by
  induction N with
  | zero => intro w pre A B post a m b h; exact absurd h (by omega)
  | succ N ih =>
    intro w pre A B post a m b hN h hA hB hC ha hm hb h1 h2
    by_cases e1 : A.length = 1
    · obtain ⟨x, rfl⟩ := List.length_eq_one_iff.1 e1
      exact sym_left W0 w ob L cap pre B post x pb g n c D h hB hC hL hn a m b ha (by simpa using hm) hb h2
    · by_cases e2 : B.length = 1
      · obtain ⟨y, rfl⟩ := List.length_eq_one_iff.1 e2
        exact sym_right W0 w ob L cap pre A post y pb g n c D h hA hC hL hn a m b ha hm (by simpa using hb) (by omega)
      · exact sym_rec W0 w ob L cap pre A B post pb g n c D N ih h hA hB hC hL hn a m b ha hm hb (by omega) (by omega) (by omega)

theorem sym_any (W0 w : World) (ob L cap : Nat) (pre A B post : List Int) (pb g n c : Nat) (D : List Int) (h : SAt W0 w ob L cap (pre ++ (A ++ (B ++ post))) pb g n c D) (hA : lexS D A) (hB : lexS D B) (hC : Com D A B) (hL : L ≤ 1048576) (hn : n ≤ 1048576) (a m b : Nat) (ha : a = pre.length) (hm : m = a + A.length) (hb : b = m + B.length) (h1 : 1 ≤ A.length) (h2 : 1 ≤ B.length) :
    Calls Try.prog 89 #[.slice (some ⟨ob, 0, none⟩) L cap, .int .i64 a, .int .i64 m, .int .i64 b, .func (.func 34) #[] #[.pointer (some ⟨pb, 0, none⟩)]] w fun e w' => e = .returned (.tuple #[]) ∧ MrgPost W0 ob L cap pb g n c D pre A B post w' :=
  sym_upto W0 ob L cap pb g n c D hL hn (A.length + B.length + 1) w pre A B post a m b (by omega) h hA hB hC ha hm hb h1 h2
end Stb
end Go.Proofs.Ytjnjppikhdfomaa

namespace Go.Proofs.Ytjnjppikhdfomaa
open Go Go.RowKit Go.Proofs B Rng
namespace Stb
open Swp Ref

/-- What the sort leaves. -/
def StbPost (W0 : World) (ob L cap : Nat) (pb g n c : Nat) (D X : List Int) (w' : World) : Prop := ∃ Y : List Int, Y.Perm X ∧ lexS D Y ∧ SAt W0 w' ob L cap Y pb g n c D

def FstAt (W0 : World) (ob L cap : Nat) (pb g n c : Nat) (D X P Q : List Int) (a : Nat) (V : World) : Prop := Fst D 20 X P Q ∧ SAt W0 V ob L cap (P ++ Q) pb g n c D ∧ a = P.length
def BlAt (W0 : World) (ob L cap : Nat) (pb g n c : Nat) (D X : List Int) (s : Nat) (V : World) : Prop := ∃ Y, Bl D s Y ∧ Y.Perm X ∧ SAt W0 V ob L cap Y pb g n c D
def PasAt (W0 : World) (ob L cap : Nat) (pb g n c : Nat) (D X : List Int) (s a : Nat) (V : World) : Prop := ∃ P Q, Pas D s X P Q ∧ SAt W0 V ob L cap (P ++ Q) pb g n c D ∧ a = P.length

section
variable {W0 : World} {ob L cap pb g n c : Nat} {D X : List Int}

theorem SAt.len2 {V : World} {P Q : List Int} (h : SAt W0 V ob L cap (P ++ Q) pb g n c D) : P.length + Q.length = L := by
  have := h.len; rw [List.length_append] at this; exact this

theorem fst_step (hL : L ≤ 1048576) (hn : n ≤ 1048576) {P Q : List Int} {a b : Nat} {V : World} (h : FstAt W0 ob L cap pb g n c D X P Q a V) (hb : b = a + 20) (hle : b ≤ L) :
    Calls Try.prog 88 #[.slice (some ⟨ob, 0, none⟩) L cap, .int .i64 a, .int .i64 b, .func (.func 34) #[] #[.pointer (some ⟨pb, 0, none⟩)]] V fun e w' => e = .returned (.tuple #[]) ∧ ∃ P' Q', FstAt W0 ob L cap pb g n c D X P' Q' b w' := by
  obtain ⟨hf, hS, ha⟩ := h
  have hl := hS.len2
  obtain ⟨A, R, rfl, hA, uA, hnx⟩ := hf.step (s := 20) (by omega)
  refine (ins_any W0 V ob L cap P A R pb g n c D hS uA hL hn a b ha (by omega) (by omega)).mono ?_
  rintro e w' ⟨he, M, pM, sM, hS'⟩
  exact ⟨he, P ++ M, R, hnx M pM sM, by rw [List.append_assoc]; exact hS', by rw [List.length_append, pM.length_eq]; omega⟩

set_option maxRecDepth 100000 in
set_option maxHeartbeats 400000 in
theorem ins_0 (A : Option Addr) (L cap : Nat) (a : Int) (a0 : 0 ≤ a) (ha : a ≤ 1048576) (cf : Value) (w : World) :
    Calls Try.prog 88 #[.slice A L cap, .int .i64 a, .int .i64 a, cf] w fun e w' => e = .returned (.tuple #[]) ∧ w = w' := by
  have h0 : ¬ a + 1 < a := by omega
  go_enter Try.func88, Try.ntmps88
  go_wp2_with fail
  refine wp_loop_rounds 1 ?_
  rw [rounds_succ]
  go_wp2
  go_end0
  exact ⟨rfl, rfl⟩

theorem fst_done (hL : L ≤ 1048576) (hn : n ≤ 1048576) {P Q : List Int} {a : Nat} {V : World} (h : FstAt W0 ob L cap pb g n c D X P Q a V) (hlt : L < a + 20) :
    Calls Try.prog 88 #[.slice (some ⟨ob, 0, none⟩) L cap, .int .i64 a, .int .i64 L, .func (.func 34) #[] #[.pointer (some ⟨pb, 0, none⟩)]] V fun e w' => e = .returned (.tuple #[]) ∧ BlAt W0 ob L cap pb g n c D X 20 w' := by
  obtain ⟨hf, hS, ha⟩ := h
  have hl := hS.len2
  cases Q with
  | nil =>
    have hLa : L = a := by simp at hl; omega
    subst hLa
    refine (ins_0 _ _ _ (L : Int) (by omega) (by omega) _ V).mono ?_
    rintro e w' ⟨he, rfl⟩
    have := hf.done (M := []) (by simp) (List.Perm.refl _) List.Pairwise.nil
    exact ⟨he, P ++ [], this.1, this.2, hS⟩
  | cons x Q =>
    have hS2 : SAt W0 V ob L cap (P ++ ((x :: Q) ++ [])) pb g n c D := by rw [List.append_nil]; exact hS
    refine (ins_any W0 V ob L cap P (x :: Q) [] pb g n c D hS2 hf.up hL hn a L ha (by omega) (by simp)).mono ?_
    rintro e w' ⟨he, M, pM, sM, hS'⟩
    have := hf.done (by omega) pM sM
    exact ⟨he, P ++ M, this.1, this.2, by rw [List.append_nil] at hS'; exact hS'⟩

theorem pas_start {s : Nat} {V : World} (h : BlAt W0 ob L cap pb g n c D X s V) : PasAt W0 ob L cap pb g n c D X s 0 V := by
  obtain ⟨Y, h1, h2, h3⟩ := h
  exact ⟨[], Y, Pas.start h1 h2, h3, rfl⟩

theorem pas_step (hL : L ≤ 1048576) (hn : n ≤ 1048576) {s a m b : Nat} {V : World} (hs : 1 ≤ s) (h : PasAt W0 ob L cap pb g n c D X s a V) (hm : m = a + s) (hb : b = a + 2 * s) (hle : b ≤ L) :
    Calls Try.prog 89 #[.slice (some ⟨ob, 0, none⟩) L cap, .int .i64 a, .int .i64 m, .int .i64 b, .func (.func 34) #[] #[.pointer (some ⟨pb, 0, none⟩)]] V fun e w' => e = .returned (.tuple #[]) ∧ PasAt W0 ob L cap pb g n c D X s b w' := by
  obtain ⟨P, Q, hp, hS, ha⟩ := h
  have hl := hS.len2
  obtain ⟨A, B, R, rfl, hA, hB, sA, sB, hc, hnx⟩ := hp.two (by omega)
  refine (sym_any W0 V ob L cap P A B R pb g n c D hS sA sB hc hL hn a m b ha (by omega) (by omega) (by omega) (by omega)).mono ?_
  rintro e w' ⟨he, M, pM, sM, hS'⟩
  exact ⟨he, P ++ M, R, hnx M pM sM, by rw [List.append_assoc]; exact hS', by rw [List.length_append, pM.length_eq, List.length_append]; omega⟩

theorem pas_end2 (hL : L ≤ 1048576) (hn : n ≤ 1048576) {s a m : Nat} {V : World} (hs : 1 ≤ s) (h : PasAt W0 ob L cap pb g n c D X s a V) (hm : m = a + s) (h1 : m < L) (h2 : L < a + 2 * s) :
    Calls Try.prog 89 #[.slice (some ⟨ob, 0, none⟩) L cap, .int .i64 a, .int .i64 m, .int .i64 L, .func (.func 34) #[] #[.pointer (some ⟨pb, 0, none⟩)]] V fun e w' => e = .returned (.tuple #[]) ∧ BlAt W0 ob L cap pb g n c D X (2 * s) w' := by
  obtain ⟨P, Q, hp, hS, ha⟩ := h
  have hl := hS.len2
  obtain ⟨A, B, rfl, hA, hB, sA, sB, hc, hnx⟩ := hp.end2 (by omega) (by omega)
  have hl2 : (A ++ B).length = A.length + B.length := List.length_append
  have hS2 : SAt W0 V ob L cap (P ++ (A ++ (B ++ []))) pb g n c D := by rw [List.append_nil]; exact hS
  refine (sym_any W0 V ob L cap P A B [] pb g n c D hS2 sA sB hc hL hn a m L ha (by omega) (by omega) (by omega) (by omega)).mono ?_
  rintro e w' ⟨he, M, pM, sM, hS'⟩
  have := hnx M pM sM
  exact ⟨he, P ++ M, this.1, this.2, by rw [List.append_nil] at hS'; exact hS'⟩
theorem pas_end1 {s a : Nat} {V : World} (h : PasAt W0 ob L cap pb g n c D X s a V) (h1 : L ≤ a + s) : BlAt W0 ob L cap pb g n c D X (2 * s) V := by
  obtain ⟨P, Q, hp, hS, ha⟩ := h
  have hl := hS.len2
  have := hp.end1 (by omega)
  exact ⟨P ++ Q, this.1, this.2, hS⟩
theorem bl_done {s : Nat} {V : World} (h : BlAt W0 ob L cap pb g n c D X s V) (hs : L ≤ s) : StbPost W0 ob L cap pb g n c D X V := by
  obtain ⟨Y, h1, h2, h3⟩ := h
  exact ⟨Y, h2, h1.short (by rw [h3.len]; exact hs), h3⟩
end
end Stb
end Go.Proofs.Ytjnjppikhdfomaa

namespace Go.Proofs.Ytjnjppikhdfomaa
open Go Go.RowKit Go.Proofs B Rng
namespace Stb
open Swp Ref

set_option maxRecDepth 100000 in
set_option maxHeartbeats 4000000 in
theorem stable_any (W0 w : World) (ob L cap : Nat) (X : List Int) (pb g n c : Nat) (D : List Int) (h : SAt W0 w ob L cap X pb g n c D) (hup : X.Pairwise (· < ·)) (hL : L ≤ 1048576) (hn : n ≤ 1048576) :
    Calls Try.prog 63 #[.slice (some ⟨ob, 0, none⟩) L cap, .int .i64 L, .func (.func 34) #[] #[.pointer (some ⟨pb, 0, none⟩)]] w fun e w' => e = .returned (.tuple #[]) ∧ StbPost W0 ob L cap pb g n c D X w' := by
  have HF : Hid (FstAt W0 ob L cap pb g n c D X [] X 0 w) := ⟨Fst.start hup, h, rfl⟩
  generalize hpost : StbPost W0 ob L cap pb g n c D X = Pst at *
  have HP := Lib.hid hpost
  clear h hup hpost
  go_enter Try.func63, Try.ntmps63
  go_wp2_with fail
  go_loopg [7, 8] L (fun gh x7 x8 wr => ∃ (P Q : List Int) (a b : Nat), Hid (FstAt W0 ob L cap pb g n c D X P Q a wr) ∧ x7 = .int .i64 (a : Int) ∧ x8 = .int .i64 (b : Int) ∧ Hid (b = a + 20) ∧ a ≤ L ∧ b ≤ 1048600 ∧ gh = L - a)
  case atStart => exact ⟨[], X, 0, 20, HF, rfl, rfl, rfl, Nat.zero_le _, by omega, rfl⟩
  case round =>
    clear HF
    obtain ⟨P, Q, a, b, hF, rfl, rfl, hb, haL, hbb, hg⟩ := hrel
    by_cases hle : b ≤ L
    · have HC := Lib.hid (fst_step hL hn hF.out hb.out hle)
      have hle2 : (b : Int) ≤ L := by omega
      have hab : a < b := by have := hb.out; omega
      clear hF
      go_wp2_with fail
      refine (HC.out).mono ?_
      rintro e w' ⟨rfl, P', Q', hN⟩
      have HN := Lib.hid hN
      clear hN HC
      go_wp2
      go_roundg (L - b)
      case measure => omega
      case rel => exact ⟨P', Q', b, b + 20, HN, rfl, by go_num, rfl, hle, by omega, rfl⟩
    · have HC := Lib.hid (fst_done hL hn hF.out (by have := hb.out; omega))
      have hle2 : ¬ (b : Int) ≤ L := by omega
      clear hF hb hg
      go_wp2_with fail
      refine (HC.out).mono ?_
      rintro e w' ⟨rfl, hB⟩
      have HB := Lib.hid hB
      clear hB HC
      go_wp2_with fail
      go_loopg [6, 7, 8] (L - 20) (fun gh x6 x7 x8 wr => ∃ s : Nat, x6 = .int .i64 (s : Int) ∧ 20 ≤ s ∧ s ≤ 2097152 ∧ Hid (BlAt W0 ob L cap pb g n c D X s wr) ∧ gh = L - s)
      case atStart => exact ⟨20, rfl, by omega, by omega, HB, rfl⟩
      case round =>
        clear HB
        obtain ⟨s, rfl, hs1, hs2, hB, hg⟩ := hrel
        by_cases hsl : s < L
        · obtain ⟨b0, hb0⟩ : ∃ b0, b0 = 2 * s := ⟨_, rfl⟩
          have e1 : (2 : Int) * s = b0 := by omega
          have e2 : IntKind.i64.wrap (b0 : Int) = b0 := IntWalk.i64_in _ (by omega)
          have e3 : (s : Int) < L := by omega
          have e4 : (s : Int) * 2 = b0 := by omega
          have hb1 : b0 ≤ 2097152 := by omega
          have HB0 := Lib.hid hb0
          have HPS := Lib.hid (pas_start hB.out)
          have hsb : s < b0 ∧ L - b0 < gk := by omega
          clear hB hb0 hg
          go_wp2_with fail
          go_loopg [7, 8] L (fun gh x7 x8 wr => ∃ (a b : Nat), Hid (PasAt W0 ob L cap pb g n c D X s a wr) ∧ x7 = .int .i64 (a : Int) ∧ x8 = .int .i64 (b : Int) ∧ Hid (b = a + 2 * s) ∧ a ≤ L ∧ b ≤ 4194304 ∧ gh = L - a)
          case atStart => exact ⟨0, b0, HPS, rfl, rfl, by have := HB0.out; show _ = _; omega, Nat.zero_le _, by omega, rfl⟩
          case round =>
            clear HPS
            obtain ⟨a, b, hPA, rfl, rfl, hb, haL, hbb, hg2⟩ := hrel
            obtain ⟨m, hm⟩ : ∃ m, m = a + s := ⟨_, rfl⟩
            have f1 : (a : Int) + s = m := by omega
            have f2 : IntKind.i64.wrap (m : Int) = m := IntWalk.i64_in _ (by omega)
            by_cases hle : b ≤ L
            · have HC := Lib.hid (pas_step hL hn (by omega) hPA.out hm hb.out hle)
              obtain ⟨b2, hb2⟩ : ∃ b2, b2 = b + b0 := ⟨_, rfl⟩
              have f3 : (b : Int) + b0 = b2 := by omega
              have f4 : IntKind.i64.wrap (b2 : Int) = b2 := IntWalk.i64_in _ (by omega)
              have hle2 : (b : Int) ≤ L := by omega
              have hab : a < b := by have := hb.out; omega
              have HB2 : Hid (b2 = b + 2 * s) := by have := HB0.out; show _ = _; omega
              have hb3 : b2 ≤ 4194304 := by omega
              clear hPA hm hb hb2
              go_wp2_with fail
              refine (HC.out).mono ?_
              rintro e w' ⟨rfl, hN⟩
              have HN := Lib.hid hN
              clear hN HC
              go_wp2
              go_roundg (L - b)
              case measure => omega
              case rel => exact ⟨b, b2, HN, rfl, rfl, HB2, hle, hb3, rfl⟩
            · have hle2 : ¬ (b : Int) ≤ L := by omega
              by_cases hmL : m < L
              · have HC := Lib.hid (pas_end2 hL hn (by omega) hPA.out hm hmL (by have := hb.out; omega))
                have f5 : (m : Int) < L := by omega
                have HB0' := HB0
                clear hPA hm hb hg2
                go_wp2_with fail
                refine (HC.out).mono ?_
                rintro e w' ⟨rfl, hN⟩
                rw [← HB0.out] at hN
                have HN := Lib.hid hN
                clear hN HC
                go_wp2
                go_roundg (L - b0)
                case measure => omega
                case rel => exact ⟨b0, rfl, by omega, by omega, HN, rfl⟩
              · have hN := pas_end1 hPA.out (by omega)
                rw [← HB0.out] at hN
                have HN := Lib.hid hN
                have f5 : ¬ (m : Int) < L := by omega
                clear hPA hm hb hg2 hN
                go_wp2
                go_roundg (L - b0)
                case measure => omega
                case rel => exact ⟨b0, rfl, by omega, by omega, HN, rfl⟩
        · have hF := bl_done hB.out (by omega)
          rw [HP.out] at hF
          have HF := Lib.hid hF
          have e3 : ¬ (s : Int) < L := by omega
          clear hB hF HP hg
          go_wp2
          go_end0
          exact ⟨rfl, HF.out⟩
end Stb
end Go.Proofs.Ytjnjppikhdfomaa

namespace Go.Proofs.Ytjnjppikhdfomaa
open Go Go.RowKit Go.Proofs B Rng
namespace Stb
open Swp Ref

theorem lexS_unique {D : List Int} : ∀ {A B : List Int}, A.Perm B → lexS D A → lexS D B → A = B := by
  intro A
  induction A with
  | nil => intro B h _ _; exact (List.nil_perm.1 h).symm
  | cons x A ih =>
    intro B h hA hB
    cases B with
    | nil => exact absurd (List.perm_nil.1 h) (by simp)
    | cons y B =>
      have e : x = y := by
        rcases lexLe_first hB (h.mem_iff.1 (by simp : x ∈ x :: A)) with e | e
        · exact e
        · rcases lexLe_first hA (h.mem_iff.2 (by simp : y ∈ y :: B)) with e' | e'
          · exact e'.symm
          · unfold lexLt at e e'; omega
      subst e
      unfold lexS at hA hB
      rw [List.pairwise_cons] at hA hB
      rw [ih (List.Perm.cons_inv h) hA.2 hB.2]

/-- The locals below k that there is a way from, rising. -/
def reachL (D : List Int) : Nat → List Int
  | 0 => []
  | k + 1 => if at0 D (k : Int) = inf then reachL D k else reachL D k ++ [(k : Int)]

theorem reachL_lt (D : List Int) (k : Nat) : ∀ x ∈ reachL D k, 0 ≤ x ∧ x < k := by
  induction k with
  | zero => intro x hx; simp [reachL] at hx
  | succ k ih =>
    intro x hx
    unfold reachL at hx
    split at hx
    · have := ih x hx; omega
    · rcases List.mem_append.1 hx with hx | hx
      · have := ih x hx; omega
      · simp at hx; omega
theorem reachL_up (D : List Int) (k : Nat) : (reachL D k).Pairwise (· < ·) := by
  induction k with
  | zero => exact List.Pairwise.nil
  | succ k ih =>
    unfold reachL
    split
    · exact ih
    · rw [List.pairwise_append]
      exact ⟨ih, List.pairwise_singleton _ _, fun p hp q hq => by simp at hq; subst hq; exact (reachL_lt D k p hp).2⟩
theorem reachL_len (D : List Int) (k : Nat) : (reachL D k).length ≤ k := by
  induction k with
  | zero => simp [reachL]
  | succ k ih =>
    unfold reachL
    split
    · omega
    · simp; omega

/-- The first k locals that there is a way from, the nearest first. -/
def Ord (D : List Int) (k : Nat) (O : List Int) : Prop := O.Perm (reachL D k) ∧ lexS D O

theorem Ord.unique {D : List Int} {k : Nat} {O O' : List Int} (h : Ord D k O) (h' : Ord D k O') : O = O' := lexS_unique (h.1.trans h'.1.symm) h.2 h'.2
theorem Ord.nil (D : List Int) : Ord D 0 [] := ⟨List.Perm.refl _, List.Pairwise.nil⟩
theorem Ord.skip {D : List Int} {k : Nat} {O : List Int} (h : Ord D k O) (e : at0 D (k : Int) = inf) : Ord D (k + 1) O := ⟨by unfold reachL; rw [if_pos e]; exact h.1, h.2⟩
theorem Ord.rng {D : List Int} {k : Nat} {O : List Int} (h : Ord D k O) : ∀ x ∈ O, 0 ≤ x ∧ x < k := fun x hx => reachL_lt D k x (h.1.mem_iff.1 hx)
theorem Ord.len {D : List Int} {k : Nat} {O : List Int} (h : Ord D k O) : O.length ≤ k := by rw [h.1.length_eq]; exact reachL_len D k
theorem Ord.ins {D : List Int} {k : Nat} {O : List Int} (h : Ord D k O) (e : at0 D (k : Int) ≠ inf) (u : Nat) (hu : u ≤ O.length) (h1 : ∀ j x, j < u → O[j]? = some x → at0 D x ≤ at0 D (k : Int)) (h2 : ∀ x, O[u]? = some x → at0 D (k : Int) < at0 D x) : Ord D (k + 1) (O.take u ++ (k : Int) :: O.drop u) := by
  refine ⟨?_, ?_⟩
  · unfold reachL
    rw [if_neg e]
    refine List.perm_middle.trans ?_
    rw [List.take_append_drop]
    exact (List.Perm.cons _ h.1).trans (List.perm_append_singleton _ _).symm
  · refine ins_right (by rw [List.take_append_drop]; exact h.2) ?_ (fun A' a ea => ?_) (fun a A' ea => ?_)
    · rw [List.take_append_drop]
      intro p hp q hq _
      simp at hq; subst hq
      exact (h.rng p hp).2
    · have hl : A'.length + 1 = u := by have := congrArg List.length ea; simp at this; omega
      refine h1 (u - 1) a (by omega) ?_
      have : (O.take u)[u - 1]? = some a := by rw [ea, ← hl]; simp
      rwa [List.getElem?_take, if_pos (by omega)] at this
    · refine h2 a ?_
      have : (O.drop u)[0]? = some a := by rw [ea]; rfl
      simpa using this
end Stb
end Go.Proofs.Ytjnjppikhdfomaa
