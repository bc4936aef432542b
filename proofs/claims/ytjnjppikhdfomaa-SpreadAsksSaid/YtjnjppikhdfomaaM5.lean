import Derived.Test.YtjnjppikhdfomaaM4
set_option linter.unusedVariables false
set_option linter.unusedSimpArgs false

namespace Go.Proofs.Ytjnjppikhdfomaa
open Go Go.RowKit Go.Proofs B Rng
namespace Ref
open Swp

def inB (n lo hi : Int) : Bool := decide (lo ≤ n) && decide (n ≤ hi)

set_option maxHeartbeats 400000 in
theorem in_any (n lo hi : Int) (w : World) : Calls Try.prog 37 #[.int .i64 n, .int .i64 lo, .int .i64 hi] w fun e w' => e = .returned (.bool (inB n lo hi)) ∧ w = w' := by
  unfold inB
  by_cases h : lo ≤ n
  · have h1 : decide (lo ≤ n) = true := by simpa using h
    rw [h1, Bool.true_and]
    go_enter Try.func37, Try.ntmps37
    go_wp2
    go_ret
    exact ⟨rfl, rfl⟩
  · have h1 : decide (lo ≤ n) = false := by simpa using h
    rw [h1, Bool.false_and]
    go_enter Try.func37, Try.ntmps37
    go_wp2
    go_ret
    exact ⟨rfl, rfl⟩

def WithinP (lo hi : Int) (w : World) (e : Ending) (w' : World) : Prop := ∃ r : Int, e = .returned (.int .i64 r) ∧ lo ≤ r ∧ r ≤ hi ∧ w = w'

set_option maxRecDepth 100000 in
set_option maxHeartbeats 1000000 in
theorem within_any (n lo hi : Int) (w : World) (h0 : 0 ≤ lo) (h1 : lo ≤ hi) (h2 : hi ≤ 1099511627776) : Calls Try.prog 15 #[.int .i64 n, .int .i64 lo, .int .i64 hi] w (WithinP lo hi w) := by
  obtain ⟨q, hq⟩ : ∃ q, n.tmod (hi - lo + 1) = q := ⟨_, rfl⟩
  have q1 : q < hi - lo + 1 := by rw [← hq]; exact Int.tmod_lt_of_pos n (by omega)
  have q2 : -(hi - lo + 1) < q := by
    have := Int.lt_tmod_of_pos n (b := hi - lo + 1) (by omega); rw [hq] at this; exact this
  have hne : ¬ hi - lo + 1 = 0 := by omega
  by_cases hs : q < 0
  · have HP : Hid (WithinP lo hi w (.returned (.int .i64 (lo + (q + hi - lo + 1)))) w) := ⟨_, rfl, by omega, by omega, rfl⟩
    go_enter Try.func15, Try.ntmps15
    go_wp2
    go_ret
    exact HP.out
  · have HP : Hid (WithinP lo hi w (.returned (.int .i64 (lo + q))) w) := ⟨_, rfl, by omega, by omega, rfl⟩
    go_enter Try.func15, Try.ntmps15
    go_wp2
    go_ret
    exact HP.out

def CostP (w : World) (e : Ending) (w' : World) : Prop := ∃ r : Int, e = .returned (.int .u8 r) ∧ 0 ≤ r ∧ r ≤ 255 ∧ w = w'

set_option maxHeartbeats 1000000 in
theorem cost_any (x : Int) (w : World) (h0 : 0 ≤ x) (h1 : x ≤ 255) : Calls Try.prog 26 #[.int .u8 x] w (CostP w) := by
  have e8 : x.tmod 8 = x % 8 := Int.tmod_eq_emod_of_nonneg h0
  have e4 : x.tmod 4 = x % 4 := Int.tmod_eq_emod_of_nonneg h0
  by_cases a : x % 8 = 7
  · have HP : Hid (CostP w (.returned (.int .u8 255)) w) := ⟨_, rfl, by omega, by omega, rfl⟩
    go_enter Try.func26, Try.ntmps26
    go_wp2
    go_ret
    exact HP.out
  · by_cases b : x < 160
    · have HP : Hid (CostP w (.returned (.int .u8 (1 + x % 4))) w) := ⟨_, rfl, by omega, by omega, rfl⟩
      go_enter Try.func26, Try.ntmps26
      go_wp2
      go_ret
      exact HP.out
    · have HP : Hid (CostP w (.returned (.int .u8 x)) w) := ⟨_, rfl, by omega, by omega, rfl⟩
      go_enter Try.func26, Try.ntmps26
      go_wp2
      go_ret
      exact HP.out

def BoolP (b : Bool) (w : World) (e : Ending) (w' : World) : Prop := e = .returned (.bool b) ∧ w = w'
def fullB (C : List Int) : Bool := !decide (0 ∈ C)

set_option maxHeartbeats 1000000 in
theorem full_any (A : Option Addr) (C : List Int) (cap : Nat) (w : World) (h : RdN w .u8 A C) (hl : C.length ≤ 140737488351232) :
    Calls Try.prog 65 #[.slice A C.length cap] w (BoolP (fullB C) w) := by
  have H := Lib.hid h
  clear h
  go_enter Try.func65, Try.ntmps65
  go_wp2
  go_loopg [3] C.length (fun g i wr => wr = w ∧ ∃ k : Nat, k ≤ C.length ∧ g + k = C.length ∧ i = .int .i64 k ∧ Hid (∀ j, j < k → C[j]? ≠ some 0))
  case atStart => exact ⟨rfl, 0, Nat.zero_le _, by omega, rfl, fun j hj => by omega⟩
  case round =>
    obtain ⟨rfl, k, hk, hg, rfl, hno⟩ := hrel
    by_cases hlt : k < C.length
    · match hC : C, hlt with
      | x :: l, hlt =>
        obtain ⟨b, o, rfl, hc⟩ := H.out x l rfl
        have hy := getD_some (l := x :: l) (0 : Int) hlt
        have hcell := hc k _ hy
        generalize hyy : (x :: l).getD k 0 = y at hy hcell
        have HY := Lib.hid hy
        clear hc hy hyy hC
        generalize hn : (x :: l).length = n at *
        have i1 : (k : Int) < n := by omega
        by_cases hv : y = 0
        · have t1 : (y == 0) = true := by simpa using hv
          have HP : Hid (BoolP (fullB (x :: l)) wr (.returned (.bool false)) wr) := ⟨by unfold fullB; rw [decide_eq_true (show 0 ∈ x :: l from hv ▸ List.mem_of_getElem? HY.out)]; rfl, rfl⟩
          clear hv HY hno
          go_wp2
          go_ret
          exact HP.out
        · have t1 : (y == 0) = false := by simpa using hv
          have HN : Hid (∀ j, j < k + 1 → (x :: l)[j]? ≠ some 0) := fun j hj => by
            by_cases e : j = k
            · subst e; rw [HY.out]; intro e; injection e with e; exact hv e
            · exact hno.out j (by omega)
          clear hv HY hno
          go_wp2
          go_roundg (gk - 1)
          case measure => omega
          case rel => exact ⟨rfl, k + 1, by omega, by omega, by go_num, HN⟩
    · have HP : Hid (BoolP (fullB C) wr (.returned (.bool true)) wr) := ⟨by
        unfold fullB; rw [decide_eq_false (fun hm => by
          obtain ⟨j, hj, he⟩ := List.getElem_of_mem hm
          exact absurd (by rw [List.getElem?_eq_getElem hj, he]) (hno.out j (by omega)))]; rfl, rfl⟩
      clear hno
      generalize C.length = n at *
      go_wp2
      go_ret
      exact HP.out

def mayMB (w h : Int) : Bool := inB w 1 1024 && inB h 1 1024

set_option maxRecDepth 100000 in
set_option maxHeartbeats 1000000 in
theorem may_any (W H : Int) (w : World) : Calls Try.prog 74 #[.int .i64 W, .int .i64 H] w (BoolP (mayMB W H) w) := by
  have HI := fun n lo hi => Lib.hid (in_any n lo hi w)
  unfold mayMB BoolP
  cases h1 : inB W 1 1024 with
  | true =>
    rw [Bool.true_and]
    go_enter Try.func74, Try.ntmps74
    go_wp2_with (go_at_call 37; refine ((HI _ _ _).out).mono ?_; rintro e w' ⟨rfl, rfl⟩)
    go_ret
    exact ⟨rfl, rfl⟩
  | false =>
    rw [Bool.false_and]
    go_enter Try.func74, Try.ntmps74
    go_wp2_with (go_at_call 37; refine ((HI _ _ _).out).mono ?_; rintro e w' ⟨rfl, rfl⟩)
    go_ret
    exact ⟨rfl, rfl⟩

def isCellB (w h c : Int) : Bool := mayMB w h && inB c 0 (w * h - 1)

set_option maxRecDepth 100000 in
set_option maxHeartbeats 1000000 in
theorem isCell_any (W H c : Int) (w : World) : Calls Try.prog 50 #[.int .i64 W, .int .i64 H, .int .i64 c] w (BoolP (isCellB W H c) w) := by
  have HM := Lib.hid (may_any W H w)
  unfold isCellB BoolP at *
  cases h1 : mayMB W H with
  | true =>
    rw [h1] at HM
    have hb : 1 ≤ W * H ∧ W * H ≤ 1048576 := by
      unfold mayMB inB at h1
      simp at h1
      have := Int.mul_pos (show 0 < W by omega) (show 0 < H by omega)
      have h2 : W * H ≤ 1024 * 1024 := Int.mul_le_mul (by omega) (by omega) (by omega) (by omega)
      omega
    obtain ⟨b0, b1⟩ := hb
    have H2 := Lib.hid (in_any c 0 (W * H - 1) w)
    rw [Bool.true_and]
    obtain ⟨b, hb⟩ : ∃ b, inB c 0 (W * H - 1) = b := ⟨_, rfl⟩
    rw [hb] at H2 ⊢
    clear hb
    generalize hm : W * H = m at *
    clear h1
    go_enter Try.func50, Try.ntmps50
    go_wp2_with (first | (go_at_call 74; refine (HM.out).mono ?_; rintro e w' ⟨rfl, rfl⟩) | (go_at_call 37; refine (H2.out).mono ?_; rintro e w' ⟨rfl, rfl⟩))
    go_ret
    exact ⟨rfl, rfl⟩
  | false =>
    rw [h1] at HM
    rw [Bool.false_and]
    clear h1
    go_enter Try.func50, Try.ntmps50
    go_wp2_with (go_at_call 74; refine (HM.out).mono ?_; rintro e w' ⟨rfl, rfl⟩)
    go_ret
    exact ⟨rfl, rfl⟩
end Ref
end Go.Proofs.Ytjnjppikhdfomaa

namespace Go.Proofs.Ytjnjppikhdfomaa
open Go Go.RowKit Go.Proofs B Rng
namespace Ref
open Swp

def stepXY (W H x y : Int) : Int := if inB x 0 (W - 1) && inB y 0 (H - 1) then y * W + x else -1
def stepM (W H c side : Int) : Int :=
  if isCellB W H c && inB side 0 4 then stepXY W H (if side = 1 then c % W + 1 else if side = 3 then c % W - 1 else c % W) (if side = 0 then c / W - 1 else if side = 2 then c / W + 1 else c / W) else -1

set_option maxRecDepth 100000 in
set_option maxHeartbeats 4000000 in
theorem step_any (W H c side : Int) (w : World) : Calls Try.prog 27 #[.int .i64 W, .int .i64 H, .int .i64 c, .int .i64 side] w fun e w' => e = .returned (.int .i64 (stepM W H c side)) ∧ Nw w w' := by
  have HI := fun n lo hi w => Lib.hid (in_any n lo hi w)
  have HC := Lib.hid (isCell_any W H c w)
  unfold BoolP at HC
  have HN := Lib.hid (Nw.refl w)
  cases hc : isCellB W H c with
  | false =>
    have e : stepM W H c side = -1 := by unfold stepM; rw [hc]; rfl
    rw [e]
    clear e
    go_enter Try.func27, Try.ntmps27
    go_wp2_with (go_at_call 50; refine ((HC).out).mono ?_; rintro e w' ⟨rfl, rfl⟩)
    go_ret
    exact ⟨rfl, HN.out⟩
  | true =>
  cases hs : inB side 0 4 with
  | false =>
    have e : stepM W H c side = -1 := by unfold stepM; rw [hc, hs]; rfl
    rw [e]
    clear e
    go_enter Try.func27, Try.ntmps27
    go_wp2_with (first | (go_at_call 50; refine ((HC).out).mono ?_; rintro e w' ⟨rfl, rfl⟩) | (go_at_call 37; refine ((HI _ _ _ _).out).mono ?_; rintro e w' ⟨rfl, rfl⟩))
    go_ret
    exact ⟨rfl, HN.out⟩
  | true =>
    have hb : (1 ≤ W ∧ W ≤ 1024) ∧ (1 ≤ H ∧ H ≤ 1024) ∧ 0 ≤ c ∧ c < W * H := by
      have h1 := hc
      unfold isCellB mayMB inB at h1
      simp at h1
      omega
    obtain ⟨⟨w0, w1⟩, ⟨h0, h1⟩, c0, c1⟩ := hb
    have em : c.tmod W = c % W := Int.tmod_eq_emod_of_nonneg c0
    have ed : c.tdiv W = c / W := Int.tdiv_eq_ediv_of_nonneg c0
    have x0 := Int.emod_nonneg c (show W ≠ 0 by omega)
    have x1 := Int.emod_lt_of_pos c (show 0 < W by omega)
    have y0 := Int.ediv_nonneg c0 (show 0 ≤ W by omega)
    have y1 : c / W < H := Int.ediv_lt_of_lt_mul (by omega) (by rw [Int.mul_comm]; exact c1)
    have hsd : side = 0 ∨ side = 1 ∨ side = 2 ∨ side = 3 ∨ side = 4 := by
      unfold inB at hs; simp at hs; omega
    have e : stepM W H c side = stepXY W H (if side = 1 then c % W + 1 else if side = 3 then c % W - 1 else c % W) (if side = 0 then c / W - 1 else if side = 2 then c / W + 1 else c / W) := by unfold stepM; rw [hc, hs]; rfl
    rw [e]
    clear e
    have ewr : wrap64 (c / W) = c / W := IntWalk.wrap64_in _ (by omega)
    have hW0 : ¬ W = 0 := by omega
    generalize c % W = x at *
    generalize c / W = y at *
    have HM : Hid (∀ y' : Int, inB y' 0 (H - 1) = true → 0 ≤ y' * W ∧ y' * W ≤ 1048576) := fun y' hy => by
      unfold inB at hy; simp at hy
      exact ⟨Int.mul_nonneg hy.1 (by omega), by have := Int.mul_le_mul (show y' ≤ 1024 by omega) w1 (by omega) (by omega); omega⟩
    have HQ : Hid (∀ nq, Nw w (w.drewN nq)) := fun nq => Nw.drewN w nq
    rcases hsd with rfl | rfl | rfl | rfl | rfl
    · have e : stepXY W H (if (0 : Int) = 1 then x + 1 else if (0 : Int) = 3 then x - 1 else x) (if (0 : Int) = 0 then y - 1 else if (0 : Int) = 2 then y + 1 else y) = stepXY W H x (y - 1) := by simp
      rw [e]
      clear e
      cases hb1 : inB x 0 (W - 1) with
      | false =>
        have e : stepXY W H x (y - 1) = -1 := by unfold stepXY; rw [hb1]; rfl
        rw [e]
        clear e HM
        go_enter Try.func27, Try.ntmps27
        go_wp2_with (first | (go_at_call 50; refine ((HC).out).mono ?_; rintro e w' ⟨rfl, rfl⟩) | (go_at_call 37; refine ((HI _ _ _ _).out).mono ?_; rintro e w' ⟨rfl, rfl⟩))
        go_quiet (fail)
        go_wp2_with (first | (go_at_call 50; refine ((HC).out).mono ?_; rintro e w' ⟨rfl, rfl⟩) | (go_at_call 37; refine ((HI _ _ _ _).out).mono ?_; rintro e w' ⟨rfl, rfl⟩))
        go_ret
        exact ⟨rfl, HQ.out nq⟩
      | true =>
        cases hb2 : inB (y - 1) 0 (H - 1) with
        | false =>
          have e : stepXY W H x (y - 1) = -1 := by unfold stepXY; rw [hb1, hb2]; rfl
          rw [e]
          clear e HM
          go_enter Try.func27, Try.ntmps27
          go_wp2_with (first | (go_at_call 50; refine ((HC).out).mono ?_; rintro e w' ⟨rfl, rfl⟩) | (go_at_call 37; refine ((HI _ _ _ _).out).mono ?_; rintro e w' ⟨rfl, rfl⟩))
          go_quiet (fail)
          go_wp2_with (first | (go_at_call 50; refine ((HC).out).mono ?_; rintro e w' ⟨rfl, rfl⟩) | (go_at_call 37; refine ((HI _ _ _ _).out).mono ?_; rintro e w' ⟨rfl, rfl⟩))
          go_ret
          exact ⟨rfl, HQ.out nq⟩
        | true =>
          have e : stepXY W H x (y - 1) = (y - 1) * W + x := by unfold stepXY; rw [hb1, hb2]; rfl
          rw [e]
          clear e
          obtain ⟨m0, m1⟩ := HM.out (y - 1) hb2
          clear HM
          go_enter Try.func27, Try.ntmps27
          go_wp2_with (first | (go_at_call 50; refine ((HC).out).mono ?_; rintro e w' ⟨rfl, rfl⟩) | (go_at_call 37; refine ((HI _ _ _ _).out).mono ?_; rintro e w' ⟨rfl, rfl⟩))
          go_quiet (fail)
          go_wp2_with (first | (go_at_call 50; refine ((HC).out).mono ?_; rintro e w' ⟨rfl, rfl⟩) | (go_at_call 37; refine ((HI _ _ _ _).out).mono ?_; rintro e w' ⟨rfl, rfl⟩))
          go_ret
          exact ⟨rfl, HQ.out nq⟩
    · have e : stepXY W H (if (1 : Int) = 1 then x + 1 else if (1 : Int) = 3 then x - 1 else x) (if (1 : Int) = 0 then y - 1 else if (1 : Int) = 2 then y + 1 else y) = stepXY W H (x + 1) y := by simp
      rw [e]
      clear e
      cases hb1 : inB (x + 1) 0 (W - 1) with
      | false =>
        have e : stepXY W H (x + 1) y = -1 := by unfold stepXY; rw [hb1]; rfl
        rw [e]
        clear e HM
        go_enter Try.func27, Try.ntmps27
        go_wp2_with (first | (go_at_call 50; refine ((HC).out).mono ?_; rintro e w' ⟨rfl, rfl⟩) | (go_at_call 37; refine ((HI _ _ _ _).out).mono ?_; rintro e w' ⟨rfl, rfl⟩))
        go_quiet (fail)
        go_wp2_with (first | (go_at_call 50; refine ((HC).out).mono ?_; rintro e w' ⟨rfl, rfl⟩) | (go_at_call 37; refine ((HI _ _ _ _).out).mono ?_; rintro e w' ⟨rfl, rfl⟩))
        go_ret
        exact ⟨rfl, HQ.out nq⟩
      | true =>
        cases hb2 : inB y 0 (H - 1) with
        | false =>
          have e : stepXY W H (x + 1) y = -1 := by unfold stepXY; rw [hb1, hb2]; rfl
          rw [e]
          clear e HM
          go_enter Try.func27, Try.ntmps27
          go_wp2_with (first | (go_at_call 50; refine ((HC).out).mono ?_; rintro e w' ⟨rfl, rfl⟩) | (go_at_call 37; refine ((HI _ _ _ _).out).mono ?_; rintro e w' ⟨rfl, rfl⟩))
          go_quiet (fail)
          go_wp2_with (first | (go_at_call 50; refine ((HC).out).mono ?_; rintro e w' ⟨rfl, rfl⟩) | (go_at_call 37; refine ((HI _ _ _ _).out).mono ?_; rintro e w' ⟨rfl, rfl⟩))
          go_ret
          exact ⟨rfl, HQ.out nq⟩
        | true =>
          have e : stepXY W H (x + 1) y = y * W + (x + 1) := by unfold stepXY; rw [hb1, hb2]; rfl
          rw [e]
          clear e
          obtain ⟨m0, m1⟩ := HM.out y hb2
          clear HM
          go_enter Try.func27, Try.ntmps27
          go_wp2_with (first | (go_at_call 50; refine ((HC).out).mono ?_; rintro e w' ⟨rfl, rfl⟩) | (go_at_call 37; refine ((HI _ _ _ _).out).mono ?_; rintro e w' ⟨rfl, rfl⟩))
          go_quiet (fail)
          go_wp2_with (first | (go_at_call 50; refine ((HC).out).mono ?_; rintro e w' ⟨rfl, rfl⟩) | (go_at_call 37; refine ((HI _ _ _ _).out).mono ?_; rintro e w' ⟨rfl, rfl⟩))
          go_ret
          exact ⟨rfl, HQ.out nq⟩
    · have e : stepXY W H (if (2 : Int) = 1 then x + 1 else if (2 : Int) = 3 then x - 1 else x) (if (2 : Int) = 0 then y - 1 else if (2 : Int) = 2 then y + 1 else y) = stepXY W H x (y + 1) := by simp
      rw [e]
      clear e
      cases hb1 : inB x 0 (W - 1) with
      | false =>
        have e : stepXY W H x (y + 1) = -1 := by unfold stepXY; rw [hb1]; rfl
        rw [e]
        clear e HM
        go_enter Try.func27, Try.ntmps27
        go_wp2_with (first | (go_at_call 50; refine ((HC).out).mono ?_; rintro e w' ⟨rfl, rfl⟩) | (go_at_call 37; refine ((HI _ _ _ _).out).mono ?_; rintro e w' ⟨rfl, rfl⟩))
        go_quiet (fail)
        go_wp2_with (first | (go_at_call 50; refine ((HC).out).mono ?_; rintro e w' ⟨rfl, rfl⟩) | (go_at_call 37; refine ((HI _ _ _ _).out).mono ?_; rintro e w' ⟨rfl, rfl⟩))
        go_ret
        exact ⟨rfl, HQ.out nq⟩
      | true =>
        cases hb2 : inB (y + 1) 0 (H - 1) with
        | false =>
          have e : stepXY W H x (y + 1) = -1 := by unfold stepXY; rw [hb1, hb2]; rfl
          rw [e]
          clear e HM
          go_enter Try.func27, Try.ntmps27
          go_wp2_with (first | (go_at_call 50; refine ((HC).out).mono ?_; rintro e w' ⟨rfl, rfl⟩) | (go_at_call 37; refine ((HI _ _ _ _).out).mono ?_; rintro e w' ⟨rfl, rfl⟩))
          go_quiet (fail)
          go_wp2_with (first | (go_at_call 50; refine ((HC).out).mono ?_; rintro e w' ⟨rfl, rfl⟩) | (go_at_call 37; refine ((HI _ _ _ _).out).mono ?_; rintro e w' ⟨rfl, rfl⟩))
          go_ret
          exact ⟨rfl, HQ.out nq⟩
        | true =>
          have e : stepXY W H x (y + 1) = (y + 1) * W + x := by unfold stepXY; rw [hb1, hb2]; rfl
          rw [e]
          clear e
          obtain ⟨m0, m1⟩ := HM.out (y + 1) hb2
          clear HM
          go_enter Try.func27, Try.ntmps27
          go_wp2_with (first | (go_at_call 50; refine ((HC).out).mono ?_; rintro e w' ⟨rfl, rfl⟩) | (go_at_call 37; refine ((HI _ _ _ _).out).mono ?_; rintro e w' ⟨rfl, rfl⟩))
          go_quiet (fail)
          go_wp2_with (first | (go_at_call 50; refine ((HC).out).mono ?_; rintro e w' ⟨rfl, rfl⟩) | (go_at_call 37; refine ((HI _ _ _ _).out).mono ?_; rintro e w' ⟨rfl, rfl⟩))
          go_ret
          exact ⟨rfl, HQ.out nq⟩
    · have e : stepXY W H (if (3 : Int) = 1 then x + 1 else if (3 : Int) = 3 then x - 1 else x) (if (3 : Int) = 0 then y - 1 else if (3 : Int) = 2 then y + 1 else y) = stepXY W H (x - 1) y := by simp
      rw [e]
      clear e
      cases hb1 : inB (x - 1) 0 (W - 1) with
      | false =>
        have e : stepXY W H (x - 1) y = -1 := by unfold stepXY; rw [hb1]; rfl
        rw [e]
        clear e HM
        go_enter Try.func27, Try.ntmps27
        go_wp2_with (first | (go_at_call 50; refine ((HC).out).mono ?_; rintro e w' ⟨rfl, rfl⟩) | (go_at_call 37; refine ((HI _ _ _ _).out).mono ?_; rintro e w' ⟨rfl, rfl⟩))
        go_quiet (fail)
        go_wp2_with (first | (go_at_call 50; refine ((HC).out).mono ?_; rintro e w' ⟨rfl, rfl⟩) | (go_at_call 37; refine ((HI _ _ _ _).out).mono ?_; rintro e w' ⟨rfl, rfl⟩))
        go_ret
        exact ⟨rfl, HQ.out nq⟩
      | true =>
        cases hb2 : inB y 0 (H - 1) with
        | false =>
          have e : stepXY W H (x - 1) y = -1 := by unfold stepXY; rw [hb1, hb2]; rfl
          rw [e]
          clear e HM
          go_enter Try.func27, Try.ntmps27
          go_wp2_with (first | (go_at_call 50; refine ((HC).out).mono ?_; rintro e w' ⟨rfl, rfl⟩) | (go_at_call 37; refine ((HI _ _ _ _).out).mono ?_; rintro e w' ⟨rfl, rfl⟩))
          go_quiet (fail)
          go_wp2_with (first | (go_at_call 50; refine ((HC).out).mono ?_; rintro e w' ⟨rfl, rfl⟩) | (go_at_call 37; refine ((HI _ _ _ _).out).mono ?_; rintro e w' ⟨rfl, rfl⟩))
          go_ret
          exact ⟨rfl, HQ.out nq⟩
        | true =>
          have e : stepXY W H (x - 1) y = y * W + (x - 1) := by unfold stepXY; rw [hb1, hb2]; rfl
          rw [e]
          clear e
          obtain ⟨m0, m1⟩ := HM.out y hb2
          clear HM
          go_enter Try.func27, Try.ntmps27
          go_wp2_with (first | (go_at_call 50; refine ((HC).out).mono ?_; rintro e w' ⟨rfl, rfl⟩) | (go_at_call 37; refine ((HI _ _ _ _).out).mono ?_; rintro e w' ⟨rfl, rfl⟩))
          go_quiet (fail)
          go_wp2_with (first | (go_at_call 50; refine ((HC).out).mono ?_; rintro e w' ⟨rfl, rfl⟩) | (go_at_call 37; refine ((HI _ _ _ _).out).mono ?_; rintro e w' ⟨rfl, rfl⟩))
          go_ret
          exact ⟨rfl, HQ.out nq⟩
    · have e : stepXY W H (if (4 : Int) = 1 then x + 1 else if (4 : Int) = 3 then x - 1 else x) (if (4 : Int) = 0 then y - 1 else if (4 : Int) = 2 then y + 1 else y) = stepXY W H x y := by simp
      rw [e]
      clear e
      cases hb1 : inB x 0 (W - 1) with
      | false =>
        have e : stepXY W H x y = -1 := by unfold stepXY; rw [hb1]; rfl
        rw [e]
        clear e HM
        go_enter Try.func27, Try.ntmps27
        go_wp2_with (first | (go_at_call 50; refine ((HC).out).mono ?_; rintro e w' ⟨rfl, rfl⟩) | (go_at_call 37; refine ((HI _ _ _ _).out).mono ?_; rintro e w' ⟨rfl, rfl⟩))
        go_quiet (fail)
        go_wp2_with (first | (go_at_call 50; refine ((HC).out).mono ?_; rintro e w' ⟨rfl, rfl⟩) | (go_at_call 37; refine ((HI _ _ _ _).out).mono ?_; rintro e w' ⟨rfl, rfl⟩))
        go_ret
        exact ⟨rfl, HQ.out nq⟩
      | true =>
        cases hb2 : inB y 0 (H - 1) with
        | false =>
          have e : stepXY W H x y = -1 := by unfold stepXY; rw [hb1, hb2]; rfl
          rw [e]
          clear e HM
          go_enter Try.func27, Try.ntmps27
          go_wp2_with (first | (go_at_call 50; refine ((HC).out).mono ?_; rintro e w' ⟨rfl, rfl⟩) | (go_at_call 37; refine ((HI _ _ _ _).out).mono ?_; rintro e w' ⟨rfl, rfl⟩))
          go_quiet (fail)
          go_wp2_with (first | (go_at_call 50; refine ((HC).out).mono ?_; rintro e w' ⟨rfl, rfl⟩) | (go_at_call 37; refine ((HI _ _ _ _).out).mono ?_; rintro e w' ⟨rfl, rfl⟩))
          go_ret
          exact ⟨rfl, HQ.out nq⟩
        | true =>
          have e : stepXY W H x y = y * W + x := by unfold stepXY; rw [hb1, hb2]; rfl
          rw [e]
          clear e
          obtain ⟨m0, m1⟩ := HM.out y hb2
          clear HM
          go_enter Try.func27, Try.ntmps27
          go_wp2_with (first | (go_at_call 50; refine ((HC).out).mono ?_; rintro e w' ⟨rfl, rfl⟩) | (go_at_call 37; refine ((HI _ _ _ _).out).mono ?_; rintro e w' ⟨rfl, rfl⟩))
          go_quiet (fail)
          go_wp2_with (first | (go_at_call 50; refine ((HC).out).mono ?_; rintro e w' ⟨rfl, rfl⟩) | (go_at_call 37; refine ((HI _ _ _ _).out).mono ?_; rintro e w' ⟨rfl, rfl⟩))
          go_ret
          exact ⟨rfl, HQ.out nq⟩
end Ref
end Go.Proofs.Ytjnjppikhdfomaa

namespace Go.Proofs.Ytjnjppikhdfomaa
open Go Go.RowKit Go.Proofs B Rng
namespace Ref
open Swp

set_option maxRecDepth 100000 in
set_option maxHeartbeats 1000000 in
theorem mayTile_any (W H : Int) (A : Option Addr) (C : List Int) (cap : Nat) (w : World) (h : RdN w .u8 A C) (hl : C.length ≤ 140737488351232) :
    Calls Try.prog 36 #[.agg #[.int .i64 W, .int .i64 H, .slice A C.length cap]] w fun e w' => e = .returned (.bool (mayB W H C)) ∧ Nw w w' := by
  have HI := fun n lo hi w => Lib.hid (in_any n lo hi w)
  have HC := Lib.hid (full_any A C cap (w.alloc (.cells #[.int .i64 W, .int .i64 H, .slice A C.length cap] 24)) (h.nw (Nw.alloc _ _)) hl)
  unfold BoolP at HC
  have HA := Lib.hid (Nw.alloc w (.cells #[.int .i64 W, .int .i64 H, .slice A C.length cap] 24))
  clear h
  have es : ∀ n, sizedB n = inB n 1 16 := fun n => rfl
  cases h1 : inB W 1 16 with
  | false =>
    have e : mayB W H C = false := by unfold mayB; rw [es W, h1]; rfl
    rw [e]
    clear e
    generalize C.length = n at *
    go_enter Try.func36, Try.ntmps36
    go_wp2_with (go_at_call 37; refine ((HI _ _ _ _).out).mono ?_; rintro e w' ⟨rfl, rfl⟩)
    go_ret
    exact ⟨rfl, HA.out⟩
  | true =>
  cases h2 : inB H 1 16 with
  | false =>
    have e : mayB W H C = false := by unfold mayB; rw [es W, es H, h1, h2]; rfl
    rw [e]
    clear e
    generalize C.length = n at *
    go_enter Try.func36, Try.ntmps36
    go_wp2_with (go_at_call 37; refine ((HI _ _ _ _).out).mono ?_; rintro e w' ⟨rfl, rfl⟩)
    go_ret
    exact ⟨rfl, HA.out⟩
  | true =>
  have hW : 1 ≤ W ∧ W ≤ 16 := by simpa [inB] using h1
  have hH : 1 ≤ H ∧ H ≤ 16 := by simpa [inB] using h2
  obtain ⟨w1, w2⟩ := hW
  obtain ⟨g1, g2⟩ := hH
  have m0 : W * H ≤ 16 * 16 := Int.mul_le_mul w2 g2 (by omega) (by omega)
  have m1 : 0 ≤ W * H := Int.mul_nonneg (by omega) (by omega)
  have mw : wrap64 (W * H) = W * H := by unfold wrap64; omega
  by_cases h3 : (C.length : Int) = W * H
  case neg =>
    have e : mayB W H C = false := by unfold mayB; rw [es W, es H, h1, h2, decide_eq_false h3]; rfl
    rw [e]
    have h3' : ((C.length : Int) == W * H) = false := by simpa using h3
    clear h3 m0 m1 e
    generalize C.length = n at *
    go_enter Try.func36, Try.ntmps36
    go_wp2_with (go_at_call 37; refine ((HI _ _ _ _).out).mono ?_; rintro e w' ⟨rfl, rfl⟩)
    go_ret
    exact ⟨rfl, HA.out⟩
  case pos =>
    have e : mayB W H C = fullB C := by unfold mayB fullB; rw [es W, es H, h1, h2, decide_eq_true h3]; rfl
    rw [e]
    clear e m0 m1
    generalize fullB C = b at *
    generalize C.length = n at *
    have h3' : ((n : Int) == W * H) = true := by simpa using h3
    go_enter Try.func36, Try.ntmps36
    go_wp2_with (first | (go_at_call 37; refine ((HI _ _ _ _).out).mono ?_; rintro e w' ⟨rfl, rfl⟩) | (go_at_call 65; refine ((HC).out).mono ?_; rintro e w' ⟨rfl, rfl⟩))
    go_ret
    exact ⟨rfl, HA.out⟩

def BoolN (b : Bool) (w : World) (e : Ending) (w' : World) : Prop := e = .returned (.bool b) ∧ Nw w w'
def FewP (A : Option Addr) (cap : Nat) (w : World) (e : Ending) (w' : World) : Prop := ∃ K' : List Int, e = .returned (.slice A K'.length cap) ∧ RdN w' .i64 A K' ∧ K'.length ≤ 24 ∧ w = w'

set_option maxHeartbeats 1000000 in
theorem few_any (A : Option Addr) (K : List Int) (cap : Nat) (w : World) (h : RdN w .i64 A K) (hl : K.length ≤ cap) (hc : K.length ≤ 140737488351232) (hc2 : cap ≤ maxLen) :
    Calls Try.prog 9 #[.slice A K.length cap] w (FewP A cap w) := by
  have HP : Hid (∃ K' : List Int, K'.length = min K.length 24 ∧ RdN w .i64 A K' ∧ K'.length ≤ 24) := by
    refine ⟨K.take 24, by rw [List.length_take, Nat.min_comm], fun x l e => ?_, by rw [List.length_take]; omega⟩
    cases K with
    | nil => simp at e
    | cons y K =>
      obtain ⟨b, o, ha, hcc⟩ := h y K rfl
      refine ⟨b, o, ha, fun j z hz => hcc j z ?_⟩
      rw [List.getElem?_take] at hz
      split at hz
      · exact hz
      · simp at hz
  clear h
  generalize K.length = n at *
  have e : (min (n : Int) 24).toNat = min n 24 := by omega
  have HQ : Hid (FewP A cap w (.returned (.slice A (min (n : Int) 24).toNat cap)) w) := by
    obtain ⟨K', h1, h2, h3⟩ := HP.out
    rw [e]
    exact ⟨K', by rw [h1], h2, h3, rfl⟩
  clear HP e
  have i1 : min (n : Int) 24 ≤ cap := by omega
  have i2 : 0 ≤ min (n : Int) 24 := by omega
  go_enter Try.func9, Try.ntmps9
  go_wp2
  go_ret
  exact HQ.out

set_option maxRecDepth 100000 in
set_option maxHeartbeats 1000000 in
theorem near_any (W H : Int) (A : Option Addr) (C : List Int) (cap : Nat) (l side : Int) (w : World) (h : RdN w .u8 A C) (hl : C.length ≤ 140737488351232) (hm : mayB W H C = true) (h0 : 0 ≤ l) (h1 : l < C.length) :
    Calls Try.prog 38 #[.agg #[.int .i64 W, .int .i64 H, .slice A C.length cap], .int .i64 l, .int .i64 side] w fun e w' => e = .returned (.int .i64 (stepM W H l side)) ∧ Nw w w' := by
  have HN := Nw.alloc w (.cells #[.int .i64 W, .int .i64 H, .slice A C.length cap] 24)
  have HM := Lib.hid (mayTile_any W H A C cap _ (h.nw HN) hl)
  rw [hm] at HM
  have HI := fun n lo hi w => Lib.hid (in_any n lo hi w)
  have hin : inB l 0 ((C.length : Int) - 1) = true := by unfold inB; simp; omega
  have HB : Hid (∀ V, Nw (w.alloc (.cells #[.int .i64 W, .int .i64 H, .slice A C.length cap] 24)) V → V.cell? ⟨w.heap.size, 0, none⟩ = some (.int .i64 W) ∧ V.cell? ⟨w.heap.size, 1, none⟩ = some (.int .i64 H) ∧ V.cell? ⟨w.heap.size, 2, none⟩ = some (.slice A C.length cap)) := fun V hV => by
    have hr := Row.new w #[.int .i64 W, .int .i64 H, .slice A C.length cap] 24
    exact ⟨hV.cell (hr.cell 0), hV.cell (hr.cell 1), hV.cell (hr.cell 2)⟩
  have HS := fun V => Lib.hid (step_any W H l side V)
  have HNN : Hid (∀ V V', Nw (w.alloc (.cells #[.int .i64 W, .int .i64 H, .slice A C.length cap] 24)) V → Nw V V' → Nw w V') := fun V V' h1 h2 => HN.trans (h1.trans h2)
  have hn1 : 1 ≤ C.length := by omega
  clear h HN hm h0 h1
  generalize C.length = n at *
  generalize stepM W H l side = r at *
  go_enter Try.func38, Try.ntmps38
  go_wp2_with fail
  refine (HM.out).mono ?_
  rintro e w1 ⟨rfl, hw1⟩
  obtain ⟨b0, b1, b2⟩ := HB.out w1 hw1
  clear HB HM
  go_wp2_with (first | (go_at_call 37; refine ((HI _ _ _ _).out).mono ?_; rintro e w' ⟨rfl, rfl⟩) | (go_at_call 27; refine ((HS _).out).mono ?_; rintro e w2 ⟨rfl, hw2⟩))
  go_ret
  exact ⟨rfl, HNN.out _ _ hw1 hw2⟩

set_option maxHeartbeats 1000000 in
theorem ints_any (A B : Option Addr) (a b : List Int) (ca cb : Nat) (w : World) (ha : RdN w .i64 A a) (hb : RdN w .i64 B b) (hla : a.length ≤ 140737488351232) (hlb : b.length ≤ 140737488351232) :
    Calls Try.prog 14 #[.slice A a.length ca, .slice B b.length cb] w fun e w' => e = .returned (.bool (decide (a = b))) ∧ Nw w w' := by
  have HA := Lib.hid ha
  have HB := Lib.hid hb
  have HN := Lib.hid (Nw.refl w)
  clear ha hb
  by_cases hl : a.length = b.length
  · have HP : Hid (∀ wr, Nw w wr → (∀ j, j < a.length → a[j]? = b[j]?) → BoolN (decide (a = b)) w (.returned (.bool true)) wr) := fun wr hw h => ⟨by
      rw [decide_eq_true (List.ext_getElem? fun j => by
        by_cases hj : j < a.length
        · exact h j hj
        · rw [List.getElem?_eq_none (by omega), List.getElem?_eq_none (by omega)])], hw⟩
    have HQ : Hid (∀ wr (j : Nat) (x y : Int), Nw w wr → a[j]? = some x → b[j]? = some y → x ≠ y → BoolN (decide (a = b)) w (.returned (.bool false)) wr) := fun wr j x y hw hx hy hne => ⟨by
      rw [decide_eq_false (fun e => by subst e; rw [hx] at hy; injection hy with hy; exact hne hy)], hw⟩
    change Calls Try.prog 14 #[.slice A a.length ca, .slice B b.length cb] w (BoolN (decide (a = b)) w)
    have HL := Lib.hid hl
    have HLA : Hid (∃ n, n = a.length) := ⟨_, rfl⟩
    rw [← hl]
    clear hl hlb
    generalize hn : a.length = n at *
    go_enter Try.func14, Try.ntmps14
    go_wp2
    go_loopg [5] n (fun g i wr => Hid (Nw w wr) ∧ ∃ k : Nat, k ≤ n ∧ g + k = n ∧ i = .int .i64 k ∧ Hid (∀ j, j < k → a[j]? = b[j]?))
    case atStart => exact ⟨HN, 0, Nat.zero_le _, by omega, rfl, fun j hj => by omega⟩
    case round =>
      obtain ⟨hw, k, hk, hg, rfl, hno⟩ := hrel
      by_cases hlt : k < n
      · have hx : a[k]? = some (a[k]'(by omega)) := List.getElem?_eq_getElem _
        have hy : b[k]? = some (b[k]'(by have := HL.out; omega)) := List.getElem?_eq_getElem _
        generalize a[k]'(by omega) = x at hx
        generalize b[k]'(by have := HL.out; omega) = y at hy
        obtain ⟨ab, ao, rfl, hca⟩ : ∃ ab ao, A = some ⟨ab, ao, none⟩ ∧ ∀ j y, a[j]? = some y → wr.cell? ⟨ab, ao + j, none⟩ = some (.int .i64 y) := by
          cases a with
          | nil => simp at hx
          | cons z l => obtain ⟨b', o', h1, h2⟩ := (HA.out.nw hw.out) z l rfl; exact ⟨b', o', h1, h2⟩
        obtain ⟨bb, bo, rfl, hcb⟩ : ∃ ab ao, B = some ⟨ab, ao, none⟩ ∧ ∀ j y, b[j]? = some y → wr.cell? ⟨ab, ao + j, none⟩ = some (.int .i64 y) := by
          cases b with
          | nil => simp at hy
          | cons z l => obtain ⟨b', o', h1, h2⟩ := (HB.out.nw hw.out) z l rfl; exact ⟨b', o', h1, h2⟩
        have cx := hca k x hx
        have cy := hcb k y hy
        have HXY : Hid (a[k]? = some x ∧ b[k]? = some y) := ⟨hx, hy⟩
        clear hx hy hca hcb
        have i1 : (k : Int) < n := by omega
        have HD : Hid (∀ nq, Nw w (wr.drewN nq)) := fun nq => Fr.drewN hw.out nq
        by_cases hv : x = y
        · have t1 : (x == y) = true := by simpa using hv
          have HN2 : Hid (∀ j, j < k + 1 → a[j]? = b[j]?) := fun j hj => by
            by_cases e : j = k
            · subst e; rw [HXY.out.1, HXY.out.2, hv]
            · exact hno.out j (by omega)
          clear hv HXY hno
          go_wp2_with fail
          go_quiet (fail)
          go_wp2
          go_roundg (gk - 1)
          case measure => omega
          case rel => exact ⟨HD.out nq, k + 1, by omega, by omega, by go_num, HN2⟩
        · have t1 : (x == y) = false := by simpa using hv
          have HF : Hid (∀ nq, BoolN (decide (a = b)) w (.returned (.bool false)) (wr.drewN nq)) := fun nq => HQ.out _ k x y (HD.out nq) HXY.out.1 HXY.out.2 hv
          clear hv HXY hno HP HQ
          go_wp2_with fail
          go_quiet (fail)
          go_wp2
          go_ret
          exact HF.out nq
      · obtain rfl : k = n := by omega
        have HF := Lib.hid (HP.out wr hw.out hno.out)
        clear hno HP HQ
        go_wp2
        go_ret
        exact HF.out
  · have HP : Hid (BoolN (decide (a = b)) w (.returned (.bool false)) w) := ⟨by rw [decide_eq_false (fun e => hl (by rw [e]))], HN.out⟩
    change Calls Try.prog 14 #[.slice A a.length ca, .slice B b.length cb] w (BoolN (decide (a = b)) w)
    have t1 : ((a.length : Int) == b.length) = false := by simp; omega
    generalize a.length = n at *
    generalize b.length = m at *
    clear HA HB hl
    go_enter Try.func14, Try.ntmps14
    go_wp2
    go_ret
    exact HP.out
end Ref
end Go.Proofs.Ytjnjppikhdfomaa

namespace Go.Proofs.Ytjnjppikhdfomaa
open Go Go.RowKit Go.Proofs B Rng
namespace Ref
open Swp

theorem outB_step {W H : Int} {C : List Int} (t : TileOK W H C) {cell side : Int} (c0 : 0 ≤ cell) (c1 : cell < C.length) : outB W H cell side = (inB side 0 4 && (side == 4 || decide (stepM W H cell side < 0))) := by
  have hlen := t.len
  have a := t.w0; have b := t.w1; have c := t.h0; have d := t.h1
  have x0 := Int.emod_nonneg cell (show W ≠ 0 by omega)
  have x1 := Int.emod_lt_of_pos cell (show 0 < W by omega)
  have y0 := Int.ediv_nonneg c0 (show 0 ≤ W by omega)
  have y1 : cell / W < H := Int.ediv_lt_of_lt_mul (by omega) (by rw [Int.mul_comm, ← hlen]; exact c1)
  have hcell : isCellB W H cell = true := by
    unfold isCellB mayMB inB
    simp only [Bool.and_eq_true, decide_eq_true_eq]
    omega
  unfold stepM
  rw [hcell, Bool.true_and]
  have hneg : ∀ x y : Int, stepXY W H x y < 0 ↔ x < 0 ∨ W - 1 < x ∨ y < 0 ∨ H - 1 < y := by
    intro x y
    unfold stepXY inB
    by_cases h : 0 ≤ x ∧ x ≤ W - 1 ∧ 0 ≤ y ∧ y ≤ H - 1
    · have := Int.mul_nonneg h.2.2.1 (show 0 ≤ W by omega)
      rw [if_pos (by simp only [Bool.and_eq_true, decide_eq_true_eq]; omega)]
      omega
    · rw [if_neg (by simp only [Bool.and_eq_true, decide_eq_true_eq]; omega)]
      omega
  unfold outB
  generalize cell % W = x at *
  generalize cell / W = y at *
  by_cases s0 : side = 0
  · subst s0; rw [if_pos rfl, if_pos (by decide)]
    simp only [show inB 0 0 4 = true from rfl, Bool.true_and]
    rw [Bool.eq_iff_iff]; simp [hneg]; omega
  by_cases s1 : side = 1
  · subst s1; rw [if_neg (by decide), if_pos rfl, if_pos (by decide)]
    simp only [show inB 1 0 4 = true from rfl, Bool.true_and]
    rw [Bool.eq_iff_iff]; simp [hneg]; omega
  by_cases s2 : side = 2
  · subst s2; rw [if_neg (by decide), if_neg (by decide), if_pos rfl, if_pos (by decide)]
    simp only [show inB 2 0 4 = true from rfl, Bool.true_and]
    rw [Bool.eq_iff_iff]; simp [hneg]; omega
  by_cases s3 : side = 3
  · subst s3; rw [if_neg (by decide), if_neg (by decide), if_neg (by decide), if_pos rfl, if_pos (by decide)]
    simp only [show inB 3 0 4 = true from rfl, Bool.true_and]
    rw [Bool.eq_iff_iff]; simp [hneg]; omega
  by_cases s4 : side = 4
  · subst s4; rfl
  · rw [if_neg s0, if_neg s1, if_neg s2, if_neg s3]
    have e : inB side 0 4 = false := by unfold inB; rw [Bool.eq_false_iff]; simp; omega
    rw [e]; simpa using s4

theorem badB_eq {W H : Int} {C : List Int} (t : TileOK W H C) (s : Sd) : badB W H C s = !(inB s.cell 0 ((C.length : Int) - 1) && (!(at0 C s.cell == 255) && (inB s.key 0 1073741824 && (inB s.side 0 4 && (s.side == 4 || decide (stepM W H s.cell s.side < 0)))))) := by
  by_cases h : 0 ≤ s.cell ∧ s.cell < C.length
  · obtain ⟨h0, h1⟩ := h
    unfold badB
    rw [outB_step t h0 h1]
    have a1 : decide (s.cell < 0) = false := by simpa using h0
    have a2 : decide ((C.length : Int) ≤ s.cell) = false := by simpa using h1
    have a3 : inB s.cell 0 ((C.length : Int) - 1) = true := by unfold inB; simp; omega
    have a4 : inB s.key 0 1073741824 = (!decide (s.key < 0) && !decide (1073741824 < s.key)) := by
      unfold inB; rw [Bool.eq_iff_iff]; simp
    rw [a1, a2, a3, a4]
    generalize decide (s.key < 0) = p
    generalize decide (1073741824 < s.key) = q
    generalize (at0 C s.cell == 255) = r
    generalize (inB s.side 0 4 && (s.side == 4 || decide (stepM W H s.cell s.side < 0))) = u
    revert p q r u; decide
  · have a3 : inB s.cell 0 ((C.length : Int) - 1) = false := by unfold inB; rw [Bool.eq_false_iff]; simp; omega
    rw [a3]
    unfold badB
    by_cases h0 : s.cell < 0
    · rw [decide_eq_true h0]; rfl
    · rw [decide_eq_true (show (C.length : Int) ≤ s.cell by omega)]; simp
end Ref
end Go.Proofs.Ytjnjppikhdfomaa

namespace Go.Proofs.Ytjnjppikhdfomaa
open Go Go.RowKit Go.Proofs B Rng
namespace Ref
open Swp

set_option maxRecDepth 100000 in
set_option maxHeartbeats 4000000 in
theorem maySeeds_any (W H : Int) (A : Option Addr) (C : List Int) (cap : Nat) (As : Option Addr) (l : List Sd) (scap : Nat) (w : World) (h : RdN w .u8 A C) (hl : C.length ≤ 140737488351232) (hb : ∀ b ∈ C, 0 ≤ b ∧ b ≤ 255) (hs : RdS w As l) (hsl : l.length ≤ 65536) :
    Calls Try.prog 12 #[.agg #[.int .i64 W, .int .i64 H, .slice A C.length cap], .slice As l.length scap] w (BoolN (smayB W H C l) w) := by
  have hN := Nw.alloc w (.cells #[.int .i64 W, .int .i64 H, .slice A C.length cap] 24)
  have HM := Lib.hid (mayTile_any W H A C cap _ (h.nw hN) hl)
  have HI := fun n lo hi w => Lib.hid (in_any n lo hi w)
  cases hm : mayB W H C with
  | false =>
    have HF : Hid (∀ w', Nw (w.alloc (.cells #[.int .i64 W, .int .i64 H, .slice A C.length cap] 24)) w' → BoolN (smayB W H C l) w (.returned (.bool false)) w') := fun w' hw => ⟨by unfold smayB; rw [hm]; rfl, hN.trans hw⟩
    rw [hm] at HM
    clear h hs hb hN hm
    generalize C.length = n at *
    generalize l.length = m at *
    go_enter Try.func12, Try.ntmps12
    go_wp2_with (go_at_call 36; refine (HM.out).mono ?_; rintro e w' ⟨rfl, hw⟩)
    go_ret
    exact HF.out _ hw
  | true =>
    have t := mayB_ok hb hm
    have hcl := t.le
    have HT : Hid (∀ V, Nw (w.alloc (.cells #[.int .i64 W, .int .i64 H, .slice A C.length cap] 24)) V → TBox V w.heap.size W H A C cap) := fun V hV => by
      have hr := Row.new w #[.int .i64 W, .int .i64 H, .slice A C.length cap] 24
      exact TBox.nw ⟨hr.cell 0, hr.cell 1, hr.cell 2, h.nw hN⟩ hV
    have HS : Hid (∀ V, Nw (w.alloc (.cells #[.int .i64 W, .int .i64 H, .slice A C.length cap] 24)) V → RdS V As l) := fun V hV => hs.nw (hN.trans hV)
    have HTO := Lib.hid t
    have HTR : Hid (∀ V, Nw (w.alloc (.cells #[.int .i64 W, .int .i64 H, .slice A C.length cap] 24)) V → (∀ j x, j < l.length → l[j]? = some x → badB W H C x = false) → BoolN (smayB W H C l) w (.returned (.bool true)) V) := fun V hV hno => ⟨by
      unfold smayB; rw [hm, any_upto hno (Nat.le_refl _)]; rfl, hN.trans hV⟩
    have HFL : Hid (∀ V (j : Nat) x, Nw (w.alloc (.cells #[.int .i64 W, .int .i64 H, .slice A C.length cap] 24)) V → l[j]? = some x → badB W H C x = true → BoolN (smayB W H C l) w (.returned (.bool false)) V) := fun V j x hV hx hbad => ⟨by
      unfold smayB; rw [hm, List.any_eq_true.2 ⟨x, List.mem_of_getElem? hx, hbad⟩]; rfl, hN.trans hV⟩
    have HNE : Hid (∀ (V : World) (c s : Int), RdN V .u8 A C → 0 ≤ c → c < C.length → Calls Try.prog 38 #[.agg #[.int .i64 W, .int .i64 H, .slice A C.length cap], .int .i64 c, .int .i64 s] V fun e w' => e = .returned (.int .i64 (stepM W H c s)) ∧ Nw V w') := fun V c s hV h0 h1 => near_any W H A C cap c s V hV hl hm h0 h1
    rw [hm] at HM
    have hn1 : 1 ≤ C.length := by
      have := t.len; have := Int.mul_pos t.w0 t.h0; omega
    have HBB : Hid (badB W H C = fun s => !(inB s.cell 0 ((C.length : Int) - 1) && (!(at0 C s.cell == 255) && (inB s.key 0 1073741824 && (inB s.side 0 4 && (s.side == 4 || decide (stepM W H s.cell s.side < 0))))))) := funext (badB_eq t)
    clear h hs hb hN hm t
    generalize badB W H C = bad at *
    generalize hn : C.length = n at *
    generalize hm' : l.length = m at *
    generalize smayB W H C l = res at *
    generalize hTT : w.heap.size = T at HT
    have hTT' := Lib.hid hTT
    go_enter Try.func12, Try.ntmps12
    go_wp2_with fail
    refine (HM.out).mono ?_
    rintro e w1 ⟨rfl, hw1⟩
    clear HM
    have HW1 := Lib.hid hw1
    clear hw1 hTT
    go_wp2_with fail
    go_loopg [5] m (fun g i wr => Hid (Nw (w.alloc (.cells #[.int .i64 W, .int .i64 H, .slice A n cap] 24)) wr) ∧ ∃ k : Nat, k ≤ m ∧ g + k = m ∧ i = .int .i64 k ∧ Hid (∀ j x, j < k → l[j]? = some x → bad x = false))
    case atStart => exact ⟨HW1, 0, Nat.zero_le _, by omega, rfl, fun j x hj => by omega⟩
    case round =>
      obtain ⟨hw, k, hk, hg, rfl, hno⟩ := hrel
      clear HW1
      by_cases hlt : k < m
      · have hx : l[k]? = some (l[k]'(by omega)) := List.getElem?_eq_getElem _
        generalize l[k]'(by omega) = s at hx
        obtain ⟨sb, so, rfl, hc⟩ : ∃ ab ao, As = some ⟨ab, ao, none⟩ ∧ (wr.cell? ⟨ab, ao + k * 3, none⟩ = some (.int .i64 s.cell) ∧ wr.cell? ⟨ab, ao + k * 3 + 1, none⟩ = some (.int .i64 s.side) ∧ wr.cell? ⟨ab, ao + k * 3 + 2, none⟩ = some (.int .i64 s.key)) := by
          cases l with
          | nil => simp at hx
          | cons z l' => obtain ⟨b', o', h1, h2⟩ := (HS.out wr hw.out) z l' rfl; exact ⟨b', o', h1, h2 k s hx⟩
        obtain ⟨q0, q1, q2⟩ := hc
        have HX := Lib.hid hx
        clear hx
        have i1 : (k : Int) < m := by omega
        obtain ⟨cell, side, key⟩ := s
        simp only at q0 q1 q2
        have hwa := hw.out.trans (Nw.alloc wr (.cells #[.int .i64 cell, .int .i64 side, .int .i64 key] 52))
        have HWA := Lib.hid hwa
        have hTB := HT.out _ hwa
        have d0 := hTB.c0
        have d1 := hTB.c1
        have d2 := hTB.c2
        have HRD := Lib.hid hTB.rd
        rw [hn] at d2
        clear hTB hwa
        cases b1 : inB cell 0 ((n : Int) - 1) with
        | false =>
          have e : bad ⟨cell, side, key⟩ = true := by rw [HBB.out]; simp only [b1, Bool.and_false, Bool.false_and, Bool.true_and, Bool.not_false, Bool.not_true, Bool.or_false, Bool.false_or]
          have HF := Lib.hid (HFL.out _ k _ (hw.out.trans (Nw.alloc wr (.cells #[.int .i64 cell, .int .i64 side, .int .i64 key] 52))) HX.out e)
          clear e HFL HTR HT HNE HBB HTO hno HX HS
          go_wp2_with (go_at_call 37; refine ((HI _ _ _ _).out).mono ?_; rintro e w' ⟨rfl, rfl⟩)
          go_ret
          exact HF.out
        | true =>
        have hr : 0 ≤ cell ∧ cell < n := by unfold inB at b1; simp at b1; omega
        obtain ⟨c0, c1⟩ := hr
        obtain ⟨tb, tof, rfl, dc⟩ := HRD.out.at (show cell.toNat < C.length by omega)
        change _ = some (Value.int .u8 (at0 C cell)) at dc
        cases b2 : (at0 C cell == 255) with
        | true =>
          have e : bad ⟨cell, side, key⟩ = true := by rw [HBB.out]; simp only [b1, b2, Bool.and_false, Bool.false_and, Bool.true_and, Bool.not_false, Bool.not_true, Bool.or_false, Bool.false_or]
          have HF := Lib.hid (HFL.out _ k _ (hw.out.trans (Nw.alloc wr (.cells #[.int .i64 cell, .int .i64 side, .int .i64 key] 52))) HX.out e)
          clear e HFL HTR HT HNE HBB HTO hno HX HS
          go_wp2_with (go_at_call 37; refine ((HI _ _ _ _).out).mono ?_; rintro e w' ⟨rfl, rfl⟩)
          go_ret
          exact HF.out
        | false =>
        cases b3 : inB key 0 1073741824 with
        | false =>
          have e : bad ⟨cell, side, key⟩ = true := by rw [HBB.out]; simp only [b1, b2, b3, Bool.and_false, Bool.false_and, Bool.true_and, Bool.not_false, Bool.not_true, Bool.or_false, Bool.false_or]
          have HF := Lib.hid (HFL.out _ k _ (hw.out.trans (Nw.alloc wr (.cells #[.int .i64 cell, .int .i64 side, .int .i64 key] 52))) HX.out e)
          clear e HFL HTR HT HNE HBB HTO hno HX HS
          go_wp2_with (go_at_call 37; refine ((HI _ _ _ _).out).mono ?_; rintro e w' ⟨rfl, rfl⟩)
          go_ret
          exact HF.out
        | true =>
        cases b4 : inB side 0 4 with
        | false =>
          have e : bad ⟨cell, side, key⟩ = true := by rw [HBB.out]; simp only [b1, b2, b3, b4, Bool.and_false, Bool.false_and, Bool.true_and, Bool.not_false, Bool.not_true, Bool.or_false, Bool.false_or]
          have HF := Lib.hid (HFL.out _ k _ (hw.out.trans (Nw.alloc wr (.cells #[.int .i64 cell, .int .i64 side, .int .i64 key] 52))) HX.out e)
          clear e HFL HTR HT HNE HBB HTO hno HX HS
          go_wp2_with (go_at_call 37; refine ((HI _ _ _ _).out).mono ?_; rintro e w' ⟨rfl, rfl⟩)
          go_ret
          exact HF.out
        | true =>
        cases b5 : (side == 4) with
        | true =>
          have e : bad ⟨cell, side, key⟩ = false := by rw [HBB.out]; simp only [b1, b2, b3, b4, b5, Bool.and_false, Bool.false_and, Bool.true_and, Bool.and_true, Bool.not_false, Bool.not_true, Bool.or_false, Bool.false_or, Bool.true_or, Bool.or_true]
          have HNO : Hid (∀ j x, j < k + 1 → l[j]? = some x → bad x = false) := fun j x hj hx => by
            by_cases ej : j = k
            · subst ej; rw [HX.out] at hx; injection hx with hx; subst hx; exact e
            · exact hno.out j x (by omega) hx
          clear e hno
          clear HFL HTR HT HNE HBB HTO HX HS
          obtain rfl : side = 4 := by simpa using b5
          clear b5
          go_wp2_with (go_at_call 37; refine ((HI _ _ _ _).out).mono ?_; rintro e w' ⟨rfl, rfl⟩)
          go_roundg (gk - 1)
          case measure => omega
          case rel => exact ⟨HWA, k + 1, by omega, by omega, by go_num, HNO⟩
        | false =>
        have b8 : ¬ side = 4 := by simpa using b5
        have HNC := Lib.hid (HNE.out _ cell side HRD.out c0 c1)
        by_cases b6 : stepM W H cell side < 0
        · have b6' : decide (stepM W H cell side < 0) = true := by simpa using b6
          have e : bad ⟨cell, side, key⟩ = false := by rw [HBB.out]; simp only [b1, b2, b3, b4, b5, b6', Bool.and_false, Bool.false_and, Bool.true_and, Bool.and_true, Bool.not_false, Bool.not_true, Bool.or_false, Bool.false_or, Bool.true_or, Bool.or_true]
          have HNO : Hid (∀ j x, j < k + 1 → l[j]? = some x → bad x = false) := fun j x hj hx => by
            by_cases ej : j = k
            · subst ej; rw [HX.out] at hx; injection hx with hx; subst hx; exact e
            · exact hno.out j x (by omega) hx
          clear e hno
          have b7 : ¬ 0 ≤ stepM W H cell side := by omega
          have HWB : Hid (∀ V, Nw (wr.alloc (.cells #[.int .i64 cell, .int .i64 side, .int .i64 key] 52)) V → Nw (w.alloc (.cells #[.int .i64 W, .int .i64 H, .slice (some ⟨tb, tof, none⟩) n cap] 24)) V) := fun V hV => HWA.out.trans hV
          clear HFL HTR HT HNE HBB HTO HX HS b6'
          go_wp2_with (first | (go_at_call 37; refine ((HI _ _ _ _).out).mono ?_; rintro e w' ⟨rfl, rfl⟩) | (go_at_call 38; refine (HNC.out).mono ?_; rintro e w' ⟨rfl, hnw⟩))
          go_roundg (gk - 1)
          case measure => omega
          case rel => exact ⟨HWB.out _ hnw, k + 1, by omega, by omega, by go_num, HNO⟩
        · have b6' : decide (stepM W H cell side < 0) = false := by simpa using b6
          have b7 : 0 ≤ stepM W H cell side := by omega
          have e : bad ⟨cell, side, key⟩ = true := by rw [HBB.out]; simp only [b1, b2, b3, b4, b5, b6', Bool.and_false, Bool.false_and, Bool.true_and, Bool.not_false, Bool.not_true, Bool.or_false, Bool.false_or]
          have HF : Hid (∀ V, Nw (wr.alloc (.cells #[.int .i64 cell, .int .i64 side, .int .i64 key] 52)) V → BoolN res w (.returned (.bool false)) V) := fun V hV => HFL.out _ k _ (HWA.out.trans hV) HX.out e
          clear e HFL HTR HT HNE HBB HTO hno HX HS b6'
          go_wp2_with (first | (go_at_call 37; refine ((HI _ _ _ _).out).mono ?_; rintro e w' ⟨rfl, rfl⟩) | (go_at_call 38; refine (HNC.out).mono ?_; rintro e w' ⟨rfl, hnw⟩))
          go_ret
          exact HF.out _ hnw
      · obtain rfl : k = m := by omega
        have HF := Lib.hid (HTR.out wr hw.out hno.out)
        clear HTR HFL HT HNE HBB HTO hno HS
        go_wp2
        go_ret
        exact HF.out
end Ref
end Go.Proofs.Ytjnjppikhdfomaa
