/- ring.New; slices.Repeat. -/
import Derived.Test.YtjnjppikhdfomaaM2
import Derived.Laws.CopyOwn
import Derived.Laws.MathBits
import Derived.IntWalk
import Derived.Shelf.SlSortCmp.WholeK
set_option linter.unusedVariables false
set_option linter.unusedSimpArgs false

namespace Go.Proofs.Ytjnjppikhdfomaa
open Go Go.RowKit Go.Proofs B Rng
namespace Swp

theorem zc_ring : Try.zeroCells104 = (.int .i64 0 :: .int .i64 0 :: (List.replicate 256 [Value.slice none 0 0, Value.int .i64 0]).flatten).toArray := by kernel_rfl

theorem flat2 {α : Type} (a b : α) (n : Nat) : ∀ i, i < n → ((List.replicate n [a, b]).flatten)[i * 2]? = some a ∧ ((List.replicate n [a, b]).flatten)[i * 2 + 1]? = some b := by
  induction n with
  | zero => intro i hi; omega
  | succ n ih =>
    intro i hi
    rw [List.replicate_succ, List.flatten_cons]
    cases i with
    | zero => exact ⟨rfl, rfl⟩
    | succ i =>
      have := ih i (by omega)
      rw [show (i + 1) * 2 = i * 2 + 2 by omega]
      exact this

theorem flat2_len {α : Type} (a b : α) (n : Nat) : ((List.replicate n [a, b]).flatten).length = n * 2 := by
  induction n with
  | zero => rfl
  | succ n ih => rw [List.replicate_succ, List.flatten_cons, List.length_append, ih]; simp; omega

theorem ring_zero (w : World) : RingAt (w.alloc (.cells (Try.zeroCells104.setIfInBounds 0 (.int .i64 0)) 104)) w.heap.size (fun k => k = w.heap.size) 0 0 0 (fun _ => []) := by
  refine ⟨_, fun _ => .slice none 0 0, fun _ => [], fun _ => 0, Row.new w _ _, ?_, ?_, ?_, ?_, ?_, fun i hi => Own.nil _ _ _, fun i hi => Nat.le_refl _, fun i hi => rfl, fun i hi => .inr ⟨rfl, rfl⟩, ?_, ?_, rfl⟩
  · rw [Array.size_setIfInBounds, zc_ring, List.size_toArray, List.length_cons, List.length_cons, flat2_len]
  · rw [setR_self _ _ _ (by rw [zc_ring, List.size_toArray, List.length_cons]; omega)]
  · rw [setR_get _ _ _ _ (by omega), zc_ring, List.getElem?_toArray, show (1 : Nat) = 0 + 1 from rfl, List.getElem?_cons_succ, List.getElem?_cons_zero]
  · intro i hi
    rw [setR_get _ _ _ _ (by omega), zc_ring, List.getElem?_toArray, show 2 + i * 2 = (i * 2) + 1 + 1 by omega, List.getElem?_cons_succ, List.getElem?_cons_succ]
    exact (flat2 _ _ 256 i hi).1
  · intro i hi
    rw [setR_get _ _ _ _ (by omega), zc_ring, List.getElem?_toArray, show 2 + i * 2 + 1 = (i * 2 + 1) + 1 + 1 by omega, List.getElem?_cons_succ, List.getElem?_cons_succ]
    exact (flat2 _ _ 256 i hi).2
  · intro i hi k hk; simp [Value.ownBlock] at hk
  · intro a b ha hb hab k hk; simp [Value.ownBlock] at hk

set_option maxHeartbeats 1000000 in
theorem new_any (w : World) :
    Calls Try.prog 29 #[.int .i64 0] w fun e w' => e = .returned (.pointer (some ⟨w.heap.size, 0, none⟩)) ∧ RingAt w' w.heap.size (fun k => k = w.heap.size) 0 0 0 (fun _ => []) ∧ Nw w w' ∧ w.heap.size < w'.heap.size := by
  have H := Lib.hid (ring_zero w)
  go_enter Try.func29, Try.ntmps29
  go_wp2
  go_ret
  exact ⟨rfl, H.out, Nw.alloc _ _, by rw [size_alloc]; omega⟩
end Swp
end Go.Proofs.Ytjnjppikhdfomaa

namespace Go.Proofs.Ytjnjppikhdfomaa
open Go Go.RowKit Go.Proofs B Rng
namespace Swp
set_option maxHeartbeats 1000000 in
theorem mul64_one (n : Nat) (hn : n < 4294967296) (w : World) :
    Calls Try.prog 82 #[.int .u64 1, .int .u64 n] w fun e w' => e = .returned (.tuple #[.int .u64 0, .int .u64 n]) ∧ w = w' := by
  have b1 : bits BinOp.and .u64 1 4294967295 = 1 := by rw [and_low32 1 (by omega) (by omega)]; rfl
  have b0 : bits BinOp.and .u64 0 4294967295 = 0 := by rw [and_low32 0 (by omega) (by omega)]; rfl
  have bn : bits BinOp.and .u64 (n : Int) 4294967295 = n := by rw [and_low32 n (by omega) (by omega)]; omega
  have nd : (n : Int) / 4294967296 = 0 := by omega
  have n0 : (0 : Int) ≤ n := by omega
  have n1 : (n : Int) < 4294967296 := by omega
  go_enter Try.func82, Try.ntmps82
  go_wp2
  go_ret2
  exact ⟨rfl, rfl⟩

set_option maxHeartbeats 1000000 in
theorem mul_one (n : Nat) (hn : n < 4294967296) (w : World) :
    Calls Try.prog 58 #[.int .u64 1, .int .u64 n] w fun e w' => e = .returned (.tuple #[.int .u64 0, .int .u64 n]) ∧ w = w' := by
  have HM := Lib.hid (mul64_one n hn w)
  go_enter Try.func58, Try.ntmps58
  go_wp2_with (go_at_call 82; refine (HM.out).mono ?_; rintro e w' ⟨rfl, rfl⟩)
  go_ret2
  exact ⟨rfl, rfl⟩

def RepRel (B : Nat) (w : World) (g : Nat) (n : Nat) (v : Int) (k : Nat) (wr : World) : Prop :=
  wr.heap[g]? = some (.cells (List.replicate k (Value.int .i64 v) ++ List.replicate (n - k) (Value.int .i64 0)).toArray 3 (0, 0)) ∧ Below B w wr ∧ B ≤ g

theorem splice_rep {α : Type} (v z : α) (k m n : Nat) (hk : k + m ≤ n) : splice (List.replicate k v ++ List.replicate (n - k) z) k (List.replicate m v) = List.replicate (k + m) v ++ List.replicate (n - (k + m)) z := by
  unfold splice
  have e1 : (List.replicate k v ++ List.replicate (n - k) z).take k = List.replicate k v := by
    rw [List.take_append_of_le_length (by simp), List.take_of_length_le (by simp)]
  have e2 : (List.replicate k v ++ List.replicate (n - k) z).drop (k + (List.replicate m v).length) = List.replicate (n - (k + m)) z := by
    rw [List.length_replicate, List.drop_append, List.drop_of_length_le (by simp), List.nil_append, List.length_replicate, List.drop_replicate]
    congr 1; omega
  rw [e1, e2, ← List.append_assoc, List.replicate_append_replicate]

set_option maxRecDepth 100000 in
set_option maxHeartbeats 2000000 in
theorem repeat_any (xb xo cap n : Nat) (v : Int) (w : World) (hv : w.cell? ⟨xb, xo, none⟩ = some (.int .i64 v)) (hn : 1 ≤ n) (hn2 : n ≤ 1048576) :
    Calls Try.prog 31 #[.slice (some ⟨xb, xo, none⟩) 1 cap, .int .i64 n] w fun e w' => ∃ g, e = .returned (.slice (some ⟨g, 0, none⟩) n n) ∧ w.heap.size ≤ g ∧ Own w' 3 1 (.slice (some ⟨g, 0, none⟩) n n) n ((List.replicate n v).map (Value.int .i64)) ∧ Nw w w' := by
  obtain ⟨i0, hi, hz0, hz1, hz2⟩ := info_parts Try.infoInt
  have HM := Lib.hid (mul_one n (by omega) w)
  have n0 : (0 : Int) ≤ n := by omega
  have n1 : (1 : Int) ≤ n := by omega
  have n2 : (n : Int) ≤ 1048576 := by omega
  go_enter Try.func31, Try.ntmps31
  go_wp2_with (first | (go_at_call 58; refine (HM.out).mono ?_; rintro e w' ⟨rfl, rfl⟩) | (refine wpList_make_full w rfl (.tmp 29) (.tmp 29) 25 rfl w.heap.size 3 i0 (.int .i64 0) 1 Try.underlying25 hi hz0 hz1 .i64 .i64 _ _ n rfl rfl rfl rfl ?b2 ?b3 ?b4 ?_))
  case b2 => rw [hz2]; omega
  case b3 => unfold maxLen; omega
  case b4 => exact Nat.le_refl _
  intro w1 ho hb
  have hR0 : Hid (w1.heap[w.heap.size]? = some (.cells (List.replicate n (Value.int .i64 0)).toArray 3 (0, 0))) := by
    rcases ho.2 with ⟨h0, _⟩ | ⟨g', cap', cur, he, _, hh, _, _, h3, h4⟩
    · simp at h0
    · simp at he; obtain ⟨rfl, rfl⟩ := he
      have : cur.toList = List.replicate n (Value.int .i64 0) := by
        rw [← toList_madeCells_one, ← h4, List.take_of_length_le (by simp [h3])]
      exact hh.trans (by rw [← this])
  have hB0 : Hid (Below w.heap.size w w1) := ⟨hb.os, hb.tape, hb.output, hb.size, fun k hk => hb.block k hk (by simp)⟩
  have hv1 : w1.cell? ⟨xb, xo, none⟩ = some (.int .i64 v) := by
    have : xb < w.heap.size := by
      unfold World.cell? at hv
      cases hh : w.heap[xb]? with
      | none => simp [hh] at hv
      | some o => exact (Array.getElem?_eq_some_iff.1 hh).1
    rw [← hv]; exact World.cell?_of_block (w := w) (hB0.out.block xb this)
  have HV := Lib.hid hv1
  have hBs : Hid (w.heap.size = w.heap.size) := rfl
  generalize hgB : w.heap.size = B at *
  have HE := Lib.hid hgB
  clear ho hb HM hv hv1 hgB hBs
  go_wp2_with (refine wpList_copy_splice rfl (.tmp 31) (.tmp 32) 25 25 rfl 3 Try.underlying25 (by rw [hi]; simp [hz1]) (some ⟨B, 0, none⟩) (some ⟨xb, xo, none⟩) n n 1 cap rfl rfl B 0 (List.replicate n (.int .i64 0)) 3 hR0.out [.int .i64 v] ?c1 ?c2 ?c3 ?c4 B w hB0.out (Nat.le_refl _) ?_)
  case c1 => show 1 = min 1 n; omega
  case c2 =>
    intro j u hj
    cases j with
    | zero => simp at hj; subst hj; exact HV.out
    | succ j => simp at hj
  case c3 => simp; omega
  case c4 => intro u hu; simp at hu; subst hu; rfl
  intro w2 hg2 hb2
  have hR : Hid (RepRel B w B n v 1 w2) := by
    refine ⟨?_, hb2, Nat.le_refl _⟩
    have := hg2.out
    rw [this]
    congr 3
    have := splice_rep (Value.int .i64 v) (.int .i64 0) 0 1 n (by omega)
    simpa using this
  clear hg2 hb2 hR0 hB0 HV
  go_wp2_with fail
  go_loopg [8] (n - 1) (fun g i wr => ∃ k : Nat, 1 ≤ k ∧ k ≤ n ∧ g + k = n ∧ i = .int .i64 k ∧ Hid (RepRel B w B n v k wr))
  case atStart => exact ⟨1, by omega, by omega, by omega, by go_num, hR⟩
  case round =>
    have hR' := hR
    clear hR
    obtain ⟨k, k1, k2, hg, rfl, hR⟩ := hrel
    have i0 : (0 : Int) ≤ k := by omega
    by_cases hlt : k < n
    · have i1 : (k : Int) < n := by omega
      go_wp2_with fail
      obtain ⟨m, hm, m1, m2⟩ : ∃ m, m = Nat.min k (n - k) ∧ 1 ≤ m ∧ k + m ≤ n := ⟨_, rfl, by show 1 ≤ min k (n - k); omega, by show k + min k (n - k) ≤ n; omega⟩
      have m3 : m ≤ k := by have : m = min k (n - k) := hm; omega
      have HS := Lib.hid (fun j u (hj : (List.replicate m (Value.int .i64 v))[j]? = some u) => show wr.cell? ((⟨B, 0, none⟩ : Addr).add j) = some u by
        have hadd : (⟨B, 0, none⟩ : Addr).add j = ⟨B, j, none⟩ := by unfold Addr.add; split <;> simp_all
        have hjm : j < m := by have := (List.getElem?_eq_some_iff.1 hj).1; simpa using this
        rw [hadd, Go.Proofs.Ytjnjppikhdfomaa.B.Row.cell (w := wr) (t := 3) hR.out.1]
        rw [List.getElem?_replicate, if_pos hjm] at hj
        simp only [List.getElem?_toArray]
        rw [List.getElem?_append_left (by simp; omega), List.getElem?_replicate, if_pos (by omega)]
        exact hj)
      have HM1 := Lib.hid hm
      have hsz : (Try.prog.info? 3).map (·.size) = some 1 := by rw [hi]; simp [hz1]
      have HZ := Lib.hid hsz
      clear hm hsz
      have hne : ¬ n = k := by omega
      have HB4 : Hid (Below B w wr.drew) := ⟨hR.out.2.1.os, hR.out.2.1.tape, hR.out.2.1.output, hR.out.2.1.size, hR.out.2.1.block⟩
      have HR4 : Hid (wr.drew.heap[B]? = some (.cells (List.replicate k (Value.int .i64 v) ++ List.replicate (n - k) (Value.int .i64 0)).toArray 3 (0, 0))) := hR.out.1
      have HS4 : Hid (∀ j u, (List.replicate m (Value.int .i64 v))[j]? = some u → wr.drew.cell? ((⟨B, 0, none⟩ : Addr).add j) = some u) := HS.out
      have h1 : ∀ u ∈ List.replicate m (Value.int .i64 v), u.oneCell' = true := by intro u hu; rw [List.eq_of_mem_replicate hu]; rfl
      have H1 := Lib.hid h1
      have hl : k + (List.replicate m (Value.int .i64 v)).length ≤ (List.replicate k (Value.int .i64 v) ++ List.replicate (n - k) (Value.int .i64 0)).length := by simp; omega
      have HL := Lib.hid hl
      have hq : (List.replicate m (Value.int .i64 v)).length = Nat.min k (n - k) := by rw [List.length_replicate]; exact HM1.out
      have HQ := Lib.hid hq
      have HRR : Hid (∀ w4, Hid (w4.heap[B]? = some (.cells (splice (List.replicate k (Value.int .i64 v) ++ List.replicate (n - k) (Value.int .i64 0)) k (List.replicate m (.int .i64 v))).toArray 3 (0, 0))) → Below B w w4 → RepRel B w B n v (k + m) w4) := fun w4 h4 hb4 => ⟨by rw [h4.out, splice_rep _ _ k m n m2], hb4, Nat.le_refl _⟩
      have hlm : (List.replicate m (Value.int .i64 v)).length = m := List.length_replicate
      generalize (List.replicate m (Value.int .i64 v)) = cs at *
      clear h1 hl hq hR hR' HS HM1
      go_region_law (refine step_copy_splice rfl (.tmp 41) (.tmp 44) 25 25 rfl 3 Try.underlying25 HZ.out (some ⟨B, k, none⟩) (some ⟨B, 0, none⟩) (n - k) (n - k) k n (by simp [Act.eval, Act.put, hne]) (by simp [Act.eval, Act.put]) B k _ 3 HR4.out cs HQ.out (fun _ => ⟨rfl, _, rfl, HS4.out⟩) HL.out H1.out B w HB4.out (Nat.le_refl _) ?_; intro w4 hg4 hb4)
      have hR2 := Lib.hid (HRR.out w4 hg4 hb4)
      clear HRR hg4 hb4 HR4 HB4 HS4 H1 HL HQ HZ hlm
      go_wp2
      go_roundg (gk - m)
      case measure => omega
      case rel => exact ⟨k + m, by omega, by omega, by omega, by rw [IntWalk.i64_in _ (by omega)]; simp, hR2⟩
    · obtain rfl : k = n := by omega
      have HP : Hid (∃ g, (Ending.returned (.slice (some ⟨B, 0, none⟩) k k)) = .returned (.slice (some ⟨g, 0, none⟩) k k) ∧ w.heap.size ≤ g ∧ Own wr 3 1 (.slice (some ⟨g, 0, none⟩) k k) k ((List.replicate k v).map (Value.int .i64)) ∧ Nw w wr) := by
        refine ⟨B, rfl, Nat.le_of_eq HE.out, ⟨by simp, .inr ⟨B, k, _, rfl, Nat.zero_le _, hR.out.1, Nat.le_refl _, by unfold maxLen; omega, by simp, by simp⟩⟩, ?_⟩
        exact Fr.of_below (by rw [HE.out]; exact hR.out.2.1) _
      clear hR
      go_wp2
      go_ret
      exact HP.out
end Swp
end Go.Proofs.Ytjnjppikhdfomaa

namespace Go.Proofs.Ytjnjppikhdfomaa
open Go Go.RowKit Go.Proofs B Rng
namespace Swp
def cmpI (x y : Int) : Int := if x < y then -1 else if y < x then 1 else 0

theorem isNaN_any (x : Int) (w : World) : Calls Try.prog 64 #[.int .i64 x] w fun e w' => e = .returned (.bool false) ∧ w = w' := by
  go_enter Try.func64, Try.ntmps64
  go_wp2
  go_ret
  simp

set_option maxHeartbeats 400000 in
theorem cmp_any (x y : Int) (w : World) : Calls Try.prog 35 #[.int .i64 x, .int .i64 y] w fun e w' => e = .returned (.int .i64 (cmpI x y)) ∧ w = w' := by
  have HN := fun x => Lib.hid (isNaN_any x w)
  by_cases h1 : x < y
  · have e : cmpI x y = -1 := by unfold cmpI; rw [if_pos h1]
    rw [e]
    go_enter Try.func35, Try.ntmps35
    go_wp2_with (go_at_call 64; refine ((HN _).out).mono ?_; rintro e w' ⟨rfl, rfl⟩)
    go_ret
    exact ⟨rfl, rfl⟩
  · by_cases h2 : y < x
    · have e : cmpI x y = 1 := by unfold cmpI; rw [if_neg h1, if_pos h2]
      rw [e]
      go_enter Try.func35, Try.ntmps35
      go_wp2_with (go_at_call 64; refine ((HN _).out).mono ?_; rintro e w' ⟨rfl, rfl⟩)
      go_ret
      exact ⟨rfl, rfl⟩
    · have e : cmpI x y = 0 := by unfold cmpI; rw [if_neg h1, if_neg h2]
      rw [e]
      go_enter Try.func35, Try.ntmps35
      go_wp2_with (go_at_call 64; refine ((HN _).out).mono ?_; rintro e w' ⟨rfl, rfl⟩)
      go_ret
      exact ⟨rfl, rfl⟩

def or3 (a b c : Int) : Int := if a ≠ 0 then a else if b ≠ 0 then b else c

set_option maxHeartbeats 1000000 in
theorem or_any (g : Nat) (a b c : Int) (w : World) (h0 : w.cell? ⟨g, 0, none⟩ = some (.int .i64 a)) (h1 : w.cell? ⟨g, 1, none⟩ = some (.int .i64 b)) (h2 : w.cell? ⟨g, 2, none⟩ = some (.int .i64 c)) :
    Calls Try.prog 80 #[.slice (some ⟨g, 0, none⟩) 3 3] w fun e w' => e = .returned (.int .i64 (or3 a b c)) ∧ w = w' := by
  have HP := Lib.hid (show ∀ r, r = or3 a b c → (Ending.returned (.int .i64 r) = .returned (.int .i64 (or3 a b c))) from fun r h => by rw [h])
  go_enter Try.func80, Try.ntmps80
  go_wp2_with fail
  go_loopg [8] 3 (fun k i wr => wr = w ∧ ∃ j : Nat, j + k = 3 ∧ i = .int .i64 j ∧ (1 ≤ j → a = 0) ∧ (2 ≤ j → b = 0) ∧ (3 ≤ j → c = 0))
  case atStart => exact ⟨rfl, 0, by omega, rfl, fun h => by omega, fun h => by omega, fun h => by omega⟩
  case round =>
    obtain ⟨rfl, j, hk, rfl, ha, hb, hc⟩ := hrel
    obtain rfl | rfl | rfl | rfl : j = 0 ∨ j = 1 ∨ j = 2 ∨ j = 3 := by omega
    · by_cases hz : a = 0
      · have t : (a == 0) = true := by simpa using hz
        go_wp2
        go_roundg (gk - 1)
        case measure => omega
        case rel => exact ⟨rfl, 1, by omega, rfl, fun _ => hz, fun h => by omega, fun h => by omega⟩
      · have t : (a == 0) = false := by simpa using hz
        have := Lib.hid (HP.out a (by unfold or3; rw [if_pos hz]))
        clear HP hz
        go_wp2
        go_ret
        exact ⟨this.out, rfl⟩
    · have ha := ha (by omega)
      by_cases hz : b = 0
      · have t : (b == 0) = true := by simpa using hz
        go_wp2
        go_roundg (gk - 1)
        case measure => omega
        case rel => exact ⟨rfl, 2, by omega, rfl, fun _ => ha, fun h => hz, fun h => by omega⟩
      · have t : (b == 0) = false := by simpa using hz
        have := Lib.hid (HP.out b (by unfold or3; rw [if_neg (by simpa using ha), if_pos hz]))
        clear HP hz ha
        go_wp2
        go_ret
        exact ⟨this.out, rfl⟩
    · have ha := ha (by omega)
      have hb := hb (by omega)
      by_cases hz : c = 0
      · have t : (c == 0) = true := by simpa using hz
        go_wp2
        go_roundg (gk - 1)
        case measure => omega
        case rel => exact ⟨rfl, 3, by omega, rfl, fun _ => ha, fun h => hb, fun h => hz⟩
      · have t : (c == 0) = false := by simpa using hz
        have := Lib.hid (HP.out c (by unfold or3; rw [if_neg (by simpa using ha), if_neg (by simpa using hb)]))
        clear HP hz ha hb
        go_wp2
        go_ret
        exact ⟨this.out, rfl⟩
    · have := Lib.hid (HP.out 0 (by unfold or3; rw [if_neg (by simpa using ha (by omega)), if_neg (by simpa using hb (by omega)), hc (by omega)]))
      clear HP ha hb hc
      go_wp2
      go_ret
      exact ⟨this.out, rfl⟩

def ordS (x y : Sd) : Int := or3 (cmpI x.key y.key) (cmpI x.cell y.cell) (cmpI x.side y.side)
def encS (x : Sd) : List Value := [.int .i64 x.cell, .int .i64 x.side, .int .i64 x.key]

def Six (w' : World) (b : Nat) (x1 x2 x3 y1 y2 y3 : Int) : Prop :=
  w'.cell? ⟨b, 0, none⟩ = some (.int .i64 x1) ∧ w'.cell? ⟨b, 1, none⟩ = some (.int .i64 x2) ∧ w'.cell? ⟨b, 2, none⟩ = some (.int .i64 x3) ∧ w'.cell? ⟨b + 1, 0, none⟩ = some (.int .i64 y1) ∧ w'.cell? ⟨b + 1, 1, none⟩ = some (.int .i64 y2) ∧ w'.cell? ⟨b + 1, 2, none⟩ = some (.int .i64 y3)

theorem Six.alloc {w : World} {b : Nat} {x1 x2 x3 y1 y2 y3 : Int} (h : Six w b x1 x2 x3 y1 y2 y3) (hb : b + 1 < w.heap.size) (o : Obj) : Six (w.alloc o).drew b x1 x2 x3 y1 y2 y3 := by
  have h0 : ∀ j, (w.alloc o).drew.cell? ⟨b, j, none⟩ = w.cell? ⟨b, j, none⟩ := fun j => World.cell?_of_block (w := w) (Below.heap_alloc w o b (by omega))
  have h1 : ∀ j, (w.alloc o).drew.cell? ⟨b + 1, j, none⟩ = w.cell? ⟨b + 1, j, none⟩ := fun j => World.cell?_of_block (w := w) (Below.heap_alloc w o (b + 1) hb)
  unfold Six
  rw [h0, h0, h0, h1, h1, h1]
  exact h

theorem cell_new (w : World) (cs : Array Value) (t : TypeId) (j : Nat) (u : Value) (h : cs[j]? = some u) : (w.alloc (.cells cs t)).drew.cell? ⟨w.heap.size, j, none⟩ = some u := (B.Row.cell (B.Row.new w cs t) j).trans h

set_option maxHeartbeats 2000000 in
theorem order_any (x y : Sd) (w : World) : Calls Try.prog 56 #[.agg #[.int .i64 x.cell, .int .i64 x.side, .int .i64 x.key], .agg #[.int .i64 y.cell, .int .i64 y.side, .int .i64 y.key]] w fun e w' => e = .returned (.int .i64 (ordS x y)) ∧ ∃ q os', w' = Sort.grow (w.drewN q) os' := by
  have HC := fun x y w => Lib.hid (cmp_any x y w)
  have HO := fun g a b c w h0 h1 h2 => Lib.hid (or_any g a b c w h0 h1 h2)
  unfold ordS
  obtain ⟨x1, x2, x3⟩ := x
  obtain ⟨y1, y2, y3⟩ := y
  simp only
  go_enter Try.func56, Try.ntmps56
  go_wp2_with fail
  generalize hW : (w.alloc (.cells #[.int .i64 x1, .int .i64 x2, .int .i64 x3] 52)).alloc (.cells #[.int .i64 y1, .int .i64 y2, .int .i64 y3] 52) = W
  have HS : Hid (Six W w.heap.size x1 x2 x3 y1 y2 y3 ∧ w.heap.size + 1 < W.heap.size) := by
    subst hW
    refine ⟨?_, by simp⟩
    unfold Six
    simp
  have HG : Hid (∀ o, ∃ q os', ((W.alloc o).drewN 1) = Sort.grow (w.drewN q) os') := fun o => by
    subst hW
    exact ⟨1, _, by rw [Sort.alloc_eq_grow, Sort.alloc_eq_grow, Sort.alloc_eq_grow, Sort.grow_grow, Sort.grow_grow]; rfl⟩
  generalize w.heap.size = b at HS ⊢
  clear hW
  go_region_held3 (fun w' => w'.cell? ⟨b, 0, none⟩ = some (.int .i64 x1) ∧ w'.cell? ⟨b, 1, none⟩ = some (.int .i64 x2) ∧ w'.cell? ⟨b, 2, none⟩ = some (.int .i64 x3) ∧ w'.cell? ⟨b + 1, 0, none⟩ = some (.int .i64 y1) ∧ w'.cell? ⟨b + 1, 1, none⟩ = some (.int .i64 y2) ∧ w'.cell? ⟨b + 1, 2, none⟩ = some (.int .i64 y3)) (first | exact HS.out.1 | exact Six.alloc HS.out.1 HS.out.2 _) ((first | (go_at_call 35; refine ((HC _ _ _).out).mono ?_; rintro e w' ⟨rfl, rfl⟩) | (go_at_call 80; refine ((HO _ _ _ _ _ (cell_new _ _ _ 0 _ rfl) (cell_new _ _ _ 1 _ rfl) (cell_new _ _ _ 2 _ rfl)).out).mono ?_; rintro e w' ⟨rfl, rfl⟩)))
  go_wp2
  go_ret
  exact ⟨rfl, HG.out _⟩
end Swp
end Go.Proofs.Ytjnjppikhdfomaa
