/- The sweeper: fill's walk. -/
import Derived.Test.YtjnjppikhdfomaaProg
import Derived.WalkKit
import Derived.KernelRfl
import Derived.Deep.QuietTactic
import Derived.BigQuiet
import Derived.WalkLawsBesides
import Derived.WalkSpells
import Derived.Deep.Draws
import Derived.Lib.Hide
import Derived.Deep.LoopGhost
import Derived.Deep.DeepCutAuto
import Derived.Deep.CutBlock
import Derived.Deep.RegionHeld3
import Derived.Deep.RegionWith
import Derived.Deep.RegionLaw
set_option linter.unusedVariables false
set_option linter.unusedSimpArgs false

namespace Go.Proofs.Ytjnjppikhdfomaa.B
open Go Go.RowKit

/-- Block b of w is a row of cells of type t, none frozen. -/
def Row (w : World) (b : Nat) (t : TypeId) (c : Array Value) : Prop := w.heap[b]? = some (.cells c t (0, 0))

/-- w' is w but for the blocks of F and new ones. -/
structure Fr (F : Nat → Prop) (w w' : World) : Prop where
  os : w'.os = w.os
  tape : w'.tape = w.tape
  output : w'.output = w.output
  size : w.heap.size ≤ w'.heap.size
  block : ∀ k, k < w.heap.size → ¬ F k → w'.heap[k]? = w.heap[k]?

theorem Fr.refl (F : Nat → Prop) (w : World) : Fr F w w := ⟨rfl, rfl, rfl, Nat.le_refl _, fun _ _ _ => rfl⟩
theorem Fr.trans {F F' : Nat → Prop} {a b c : World} (h : Fr F a b) (k : Fr F' b c) (hF : ∀ i, i < a.heap.size → F' i → F i) : Fr F a c :=
  ⟨k.os.trans h.os, k.tape.trans h.tape, k.output.trans h.output, Nat.le_trans h.size k.size, fun i hi hn => (k.block i (Nat.lt_of_lt_of_le hi h.size) (fun x => hn (hF i hi x))).trans (h.block i hi hn)⟩
theorem Fr.mono {F F' : Nat → Prop} {a b : World} (h : Fr F a b) (hF : ∀ i, i < a.heap.size → F i → F' i) : Fr F' a b :=
  ⟨h.os, h.tape, h.output, h.size, fun i hi hn => h.block i hi (fun x => hn (hF i hi x))⟩
theorem Fr.drewN {F : Nat → Prop} {a b : World} (h : Fr F a b) (n : Nat) : Fr F a (b.drewN n) := ⟨h.os, h.tape, h.output, h.size, h.block⟩
theorem Fr.drew {F : Nat → Prop} {a b : World} (h : Fr F a b) : Fr F a b.drew := ⟨h.os, h.tape, h.output, h.size, h.block⟩
theorem size_alloc (w : World) (o : Obj) : (w.alloc o).heap.size = w.heap.size + 1 := by simp
theorem Fr.alloc {F : Nat → Prop} {a b : World} (h : Fr F a b) (o : Obj) : Fr F a (b.alloc o) :=
  ⟨h.os, h.tape, h.output, by rw [size_alloc]; exact Nat.le_succ_of_le h.size, fun i hi hn => (Below.heap_alloc b o i (Nat.lt_of_lt_of_le hi h.size)).trans (h.block i hi hn)⟩
theorem size_setCell (w : World) (a : Addr) (v : Value) : (w.setCell a v).heap.size = w.heap.size := by simp [World.setCell]
theorem Fr.setCell {F : Nat → Prop} {a b : World} (h : Fr F a b) {p : Addr} (hp : p.block < a.heap.size → F p.block) (v : Value) : Fr F a (b.setCell p v) :=
  ⟨h.os, h.tape, h.output, by rw [size_setCell]; exact h.size, fun i hi hn => (Below.heap_setCell b p v i (fun e => hn (by subst e; exact hp hi))).trans (h.block i hi hn)⟩
theorem Fr.grown {F : Nat → Prop} {a b c : World} (h : Fr F a b) {row : Option Nat} (hg : b.grownBy c row) (hr : ∀ k, row = some k → k < a.heap.size → F k) : Fr F a c :=
  ⟨hg.os.trans h.os, hg.tape.trans h.tape, hg.output.trans h.output, Nat.le_trans h.size hg.size, fun i hi hn => (hg.block i (Nat.lt_of_lt_of_le hi h.size) (fun e => hn (hr i e.symm hi))).trans (h.block i hi hn)⟩
theorem Fr.below {F : Nat → Prop} {B : Nat} {w w' : World} (h : Fr F w w') (hB : B ≤ w.heap.size) (hF : ∀ k, k < B → ¬ F k) : Below B w w' :=
  ⟨h.os, h.tape, h.output, h.size, fun k hk => h.block k (Nat.lt_of_lt_of_le hk hB) (hF k hk)⟩
theorem Fr.of_below {w w' : World} (h : Below w.heap.size w w') (F : Nat → Prop) : Fr F w w' := ⟨h.os, h.tape, h.output, h.size, fun k hk _ => h.block k hk⟩
theorem Fr.cell {F : Nat → Prop} {w w' : World} (h : Fr F w w') {p : Addr} (hp : p.block < w.heap.size) (hn : ¬ F p.block) : w'.cell? p = w.cell? p := World.cell?_of_block (w := w) (h.block p.block hp hn)
theorem Fr.frozen {F : Nat → Prop} {w w' : World} (h : Fr F w w') {p : Addr} (hp : p.block < w.heap.size) (hn : ¬ F p.block) : w'.frozen? p = w.frozen? p := World.frozen?_of_block (w := w) (h.block p.block hp hn)

section
variable {w w' : World} {b : Nat} {t : TypeId} {c : Array Value}
theorem Row.lt (h : Row w b t c) : b < w.heap.size := (Array.getElem?_eq_some_iff.1 h).1
theorem Row.cell (h : Row w b t c) (o : Nat) : w.cell? ⟨b, o, none⟩ = c[o]? := by
  unfold Row at h; simp [World.cell?, h]
theorem Row.free (h : Row w b t c) (o : Nat) : w.frozen? ⟨b, o, none⟩ = false := by
  unfold Row at h; simp [World.frozen?, h]
theorem Row.fr {F : Nat → Prop} (h : Row w b t c) (hf : Fr F w w') (hn : ¬ F b) : Row w' b t c := (hf.block b h.lt hn).trans h
theorem Row.alloc (h : Row w b t c) (o : Obj) : Row (w.alloc o) b t c := (Below.heap_alloc w o b h.lt).trans h
theorem Row.drew (h : Row w b t c) : Row w.drew b t c := h
theorem Row.drewN (h : Row w b t c) (n : Nat) : Row (w.drewN n) b t c := h
theorem Row.set (h : Row w b t c) (o : Nat) (v : Value) : Row (w.setCell ⟨b, o, none⟩ v) b t (c.setIfInBounds o v) := by
  unfold Row at h ⊢; simp [World.setCell, Array.getElem?_modify, h]
theorem Row.setOther (h : Row w b t c) {a : Addr} (v : Value) (hn : a.block ≠ b) : Row (w.setCell a v) b t c := (Below.heap_setCell w a v b (fun e => hn e.symm)).trans h
theorem Row.grown (h : Row w b t c) {row : Option Nat} (hg : w.grownBy w' row) (hn : some b ≠ row) : Row w' b t c := (hg.block b h.lt hn).trans h
theorem Row.new (w : World) (c : Array Value) (t : TypeId) : Row (w.alloc (.cells c t)) w.heap.size t c := heap_alloc_new w _
theorem Row.unique {t' : TypeId} {c' : Array Value} (h : Row w b t c) (h' : Row w b t' c') : c = c' ∧ t = t' := by
  unfold Row at h h'; rw [h] at h'; injection h' with h'; injection h' with h1 h2; exact ⟨h1, h2⟩
end

/-- A slice of the program's own making, from the head of its block on. -/
def Own (w : World) (e : TypeId) (sz : Nat) (v : Value) (n : Nat) (xs : List Value) : Prop := w.ownsRow 0 e sz v n xs

section
variable {w w' : World} {e : TypeId} {sz : Nat} {v : Value} {n : Nat} {xs : List Value}
theorem Own.nil (w : World) (e : TypeId) (sz : Nat) : Own w e sz (.slice none 0 0) 0 [] := World.ownsRow_nil _ _ _ _
theorem Own.fr {F : Nat → Prop} (h : Own w e sz v n xs) (hf : Fr F w w') (hn : ∀ k, v.ownBlock = some k → ¬ F k) : Own w' e sz v n xs := by
  refine ⟨h.1, ?_⟩
  rcases h.2 with hh | ⟨g, cap, cur, rfl, hb, hgg, rest⟩
  · exact .inl hh
  · refine .inr ⟨g, cap, cur, rfl, hb, ?_, rest⟩
    rw [hf.block g (Array.getElem?_eq_some_iff.1 hgg).1 (hn g rfl)]
    exact hgg
theorem Own.lt (h : Own w e sz v n xs) : ∀ k, v.ownBlock = some k → k < w.heap.size := fun k hk => (World.ownsRow.lt h k hk).2
theorem Own.alloc (h : Own w e sz v n xs) (o : Obj) : Own (w.alloc o) e sz v n xs := World.ownsRow.alloc h o
theorem Own.length (h : Own w e sz v n xs) : xs.length = n * sz := h.1
theorem Own.slice (h : Own w e sz v n xs) : ∃ A c, v = .slice A n c ∧ (0 < n → ∃ g, A = some ⟨g, 0, none⟩) ∧ n ≤ maxLen ∧ (∀ g, v.ownBlock = some g → A = some ⟨g, 0, none⟩) ∧ n ≤ c ∧ c ≤ maxLen := by
  rcases h.2 with ⟨rfl, rfl⟩ | ⟨g, cap, cur, rfl, _, _, h1, h2, _⟩
  · exact ⟨none, 0, rfl, fun h => absurd h (by omega), Nat.zero_le _, fun g hg => by simp [Value.ownBlock] at hg, Nat.le_refl _, Nat.zero_le _⟩
  · exact ⟨_, cap, rfl, fun _ => ⟨g, rfl⟩, Nat.le_trans h1 h2, fun g' hg => by simp [Value.ownBlock] at hg; subst hg; rfl, h1, h2⟩
theorem Own.cells (h : Own w e sz v n xs) {g : Nat} (hg : v.ownBlock = some g) (j : Nat) (u : Value) (hu : xs[j]? = some u) : w.cell? ⟨g, j, none⟩ = some u := by
  have := World.ownsRow.cells h hg j u hu
  have hadd : (⟨g, 0, none⟩ : Addr).add j = ⟨g, j, none⟩ := by unfold Addr.add; split <;> simp_all
  rwa [hadd] at this
theorem Own.free (h : Own w e sz v n xs) {g : Nat} (hg : v.ownBlock = some g) (j : Nat) : w.frozen? ⟨g, j, none⟩ = false := by
  rcases h.2 with ⟨rfl, rfl⟩ | ⟨g', cap, cur, rfl, _, hh, _⟩
  · simp [Value.ownBlock] at hg
  · simp [Value.ownBlock] at hg; subst hg; simp [World.frozen?, hh]
/-- A shorter slice over the same row. -/
theorem Own.take {g cap : Nat} (h : Own w e sz (.slice (some ⟨g, 0, none⟩) n cap) n xs) (m : Nat) (hm : m ≤ n) : Own w e sz (.slice (some ⟨g, 0, none⟩) m cap) m (xs.take (m * sz)) := by
  rcases h.2 with ⟨h0, _⟩ | ⟨g', cap', cur, he, hb, hh, h1, h2, h3, h4⟩
  · simp at h0
  · simp at he; obtain ⟨rfl, rfl⟩ := he
    refine ⟨?_, .inr ⟨g, cap, cur, rfl, hb, hh, by omega, h2, h3, ?_⟩⟩
    · rw [List.length_take, h.1]; exact Nat.min_eq_left (Nat.mul_le_mul_right _ hm)
    · rw [← h4, List.take_take, Nat.min_eq_left (Nat.mul_le_mul_right _ hm)]
/-- A store into an element. -/
theorem Own.set {g cap : Nat} (h : Own w e sz (.slice (some ⟨g, 0, none⟩) n cap) n xs) (j : Nat) (u : Value) : Own (w.setCell ⟨g, j, none⟩ u) e sz (.slice (some ⟨g, 0, none⟩) n cap) n (xs.set j u) := by
  rcases h.2 with ⟨h0, _⟩ | ⟨g', cap', cur, he, hb, hh, h1, h2, h3, h4⟩
  · simp at h0
  · simp at he; obtain ⟨rfl, rfl⟩ := he
    refine ⟨by rw [List.length_set]; exact h.1, .inr ⟨g, cap, cur.setIfInBounds j u, rfl, hb, ?_, h1, h2, by simpa using h3, ?_⟩⟩
    · exact Row.set (w := w) (b := g) (t := e) (c := cur) hh j u
    · simp only [Array.toList_setIfInBounds]
      rw [List.take_set, h4]
end

theorem ownBlock_some {g n c o : Nat} {s : Option Nat} : (Value.slice (some ⟨g, o, s⟩) n c).ownBlock = some g := rfl

/-- append onto a slice of one's own: what comes of it, and where it lies. -/
theorem run_append {P : Program} (w : World) (t ty e : TypeId) (i : TypeInfo) (z : Value) (size bytes : Nat) (ht : P.underlying t = some (.slice e)) (hi : P.info? e = some i) (hz : i.zero = some z)
    (hsize : i.size = size) (hby : i.bytes = bytes) (hzs : z.cells.size = size)
    (v : Value) (n : Nat) (xs : List Value) (hown : Own w e size v n xs)
    (a : Addr) (m c : Nat) (news : List Value) (hl : news.length = m * size) (hnews : ∀ j u, news[j]? = some u → w.cell? (a.add j) = some u) (h1 : ∀ u ∈ news, u.oneCell' = true)
    (h63 : n + m ≤ maxLen) (hbytes : (n + m) * bytes ≤ 140737488355328) :
    ∃ v' w', (Builtin.append_ #[t, t] ty #[v, .slice (some a) m c]).run P w = .ok v' w' ∧ Own w' e size v' (n + m) (xs ++ news) ∧ w.grownBy w' v.ownBlock ∧
      (v'.ownBlock = v.ownBlock ∨ v'.ownBlock = some w.heap.size) ∧ (0 < n + m → v'.ownBlock ≠ none) ∧ (v' = .slice none 0 0 ↔ v = .slice none 0 0 ∧ m = 0) := by
  subst hsize
  subst hby
  have hsmall : n + m ≤ 9223372036854775807 := by simp only [maxLen] at h63; omega
  have hlen : (xs ++ news).length = (n + m) * i.size := by rw [List.length_append, hown.1, hl, Nat.add_mul]
  have grown : ∀ (old : Nat), old < n + m → ∀ (row : Option Nat),
      Own (w.drew.alloc (.cells (xs.toArray ++ news.toArray ++ Builtin.zeroCells z.cells (grownCap w (n + m) old e - (n + m))) e)) e i.size
        (.slice (some ⟨w.heap.size, 0, none⟩) (n + m) (grownCap w (n + m) old e)) (n + m) (xs ++ news) ∧
      w.grownBy (w.drew.alloc (.cells (xs.toArray ++ news.toArray ++ Builtin.zeroCells z.cells (grownCap w (n + m) old e - (n + m))) e)) row := by
    intro old ho row
    have hge := grownCap_ge w (n + m) old e
    have hcm : grownCap w (n + m) old e ≤ maxLen := grownCap_le_maxLen w (n + m) old e h63
    refine ⟨⟨hlen, .inr ⟨w.heap.size, _, _, rfl, Nat.zero_le _, heap_alloc_new w.drew _, hge, hcm, ?_, ?_⟩⟩, ⟨rfl, rfl, rfl, by simp, fun k hk _ => Below.heap_alloc w.drew _ k hk⟩⟩
    · simp only [Array.size_append, List.size_toArray, size_zeroCells, hzs, hown.1, hl, ← Nat.add_mul]
      congr 1
      omega
    · simp only [Array.toList_append, List.append_assoc]
      rw [← List.append_assoc, ← hlen]
      exact List.take_left
  rcases hown.2 with ⟨rfl, rfl⟩ | ⟨g, cap, cur, rfl, hbg, hg, hnc, hcm, hcs, htake⟩
  · have hx : xs = [] := List.eq_nil_of_length_eq_zero (by simpa using hown.1)
    subst hx
    by_cases hm : m = 0
    · subst hm
      have hn : news = [] := List.eq_nil_of_length_eq_zero (by simpa using hl)
      subst hn
      refine ⟨.slice none 0 0, w, ?_, World.ownsRow_nil w 0 e i.size, ⟨rfl, rfl, rfl, Nat.le_refl _, fun _ _ _ => rfl⟩, .inl rfl, fun h => absurd h (by omega), by simp⟩
      simp [Builtin.append_, run_underlying ht, sizeOf, typeInfo, hi, Builtin.lenOf, Builtin.firstCells, loadCells, loadCellsFrom]
    · have hr := run_append_nil (P := P) w t ty e i z ht hi hz a m c news hl hnews (by omega) (by omega) (by have hb := hbytes; simp only [Nat.zero_add] at hb; omega)
      have hgr := grown 0 (by omega) (Value.ownBlock (.slice none 0 0))
      simp only [Nat.zero_add, List.nil_append, Array.empty_append] at hgr ⊢
      exact ⟨_, _, hr, hgr.1, hgr.2, .inr rfl, fun _ => by simp [Value.ownBlock], by simp [hm]⟩
  · by_cases hroom : n + m ≤ cap
    · have hfit : n * i.size + news.length ≤ cur.size := by rw [hl, hcs, ← Nat.add_mul]; exact Nat.mul_le_mul_right _ hroom
      have hr := run_append_room (P := P) w t ty e i ht hi g n cap cur hg a m c news hl hnews h1 hroom hfit
      refine ⟨_, _, hr, ⟨hlen, .inr ⟨g, cap, _, rfl, hbg, setRow_heap w g cur _ e _ hg, hroom, hcm, ?_, ?_⟩⟩, ⟨rfl, rfl, rfl, by simp, fun k _ hk => setRow_other w g k _ (fun e => hk (by simp [Value.ownBlock, e]))⟩, .inl rfl, fun _ => by simp [Value.ownBlock], by simp⟩
      · simp only [List.size_toArray, List.length_append, List.length_take, List.length_drop, Array.length_toList]
        omega
      · rw [htake, ← hlen]
        exact List.take_left
    · have holds : ∀ j u, xs[j]? = some u → w.cell? ((⟨g, 0, none⟩ : Addr).add j) = some u := World.ownsRow.cells hown (g := g) rfl
      have hr := run_append_grow (P := P) w t ty e i z ht hi hz ⟨g, 0, none⟩ n cap xs hown.1 holds a m c news hl hnews (by omega) (by omega) (growslice_fits (by omega) hbytes)
      have hgr := grown cap (by omega) (Value.ownBlock (.slice (some ⟨g, 0, none⟩) n cap))
      exact ⟨_, _, hr, hgr.1, hgr.2, .inr rfl, fun _ => by simp [Value.ownBlock], by simp⟩

theorem wp_append {P : Program} {w : World} {o : Oper} {a : Act} {K : Act → World → Prop} {Q : Exit → Act → World → Prop} (s x : Operand) (t : TypeId)
    (ho : o.op = .call { callee := .builtin .append, args := #[s, x], argTypes := #[t, t] })
    (e : TypeId) (i : TypeInfo) (z : Value) (size bytes : Nat) (ht : P.underlying t = some (.slice e)) (hi : P.info? e = some i) (hz : i.zero = some z)
    (hsize : i.size = size) (hby : i.bytes = bytes) (hzs : z.cells.size = size)
    (v : Value) (n : Nat) (xs : List Value) (hs : a.eval s = v) (hown : Own w e size v n xs)
    (ad : Addr) (m c : Nat) (news : List Value) (hx : a.eval x = .slice (some ad) m c) (hl : news.length = m * size) (hnews : ∀ j u, news[j]? = some u → w.cell? (ad.add j) = some u) (h1 : ∀ u ∈ news, u.oneCell' = true)
    (h63 : n + m ≤ maxLen) (hbytes : (n + m) * bytes ≤ 140737488355328)
    (h : ∀ v' w', Own w' e size v' (n + m) (xs ++ news) → w.grownBy w' v.ownBlock → (v'.ownBlock = v.ownBlock ∨ v'.ownBlock = some w.heap.size) → (0 < n + m → v'.ownBlock ≠ none) → (v' = .slice none 0 0 ↔ v = .slice none 0 0 ∧ m = 0) → K (a.put o.dst v') w') : o.wp P a w K Q := by
  obtain ⟨v', w', hr, h2, h3, h4, h5, h6⟩ := run_append (P := P) w t o.type e i z size bytes ht hi hz hsize hby hzs v n xs hown ad m c news hl hnews h1 h63 hbytes
  unfold Oper.wp execOp
  simp only [ho, resolve, invoke, builtin, Sem.run_bind, Sem.run_pure, Result.andThen_ok, List.map_toArray, List.map_cons, List.map_nil, hs, hx, hr]
  exact h v' w' h2 h3 h4 h5 h6

theorem wpL_append {P : Program} {w : World} {ops : Array Oper} {rest : List Oper} {o : Oper} {a : Act} {Q : Exit → Act → World → Prop} (hgd : o.guard = none) (s x : Operand) (t : TypeId)
    (ho : o.op = .call { callee := .builtin .append, args := #[s, x], argTypes := #[t, t] })
    (e : TypeId) (i : TypeInfo) (z : Value) (size bytes : Nat) (ht : P.underlying t = some (.slice e)) (hi : P.info? e = some i) (hz : i.zero = some z)
    (hsize : i.size = size) (hby : i.bytes = bytes) (hzs : z.cells.size = size)
    (v : Value) (n : Nat) (xs : List Value) (hs : a.eval s = v) (hown : Own w e size v n xs)
    (ad : Addr) (m c : Nat) (news : List Value) (hx : a.eval x = .slice (some ad) m c) (hl : news.length = m * size) (hnews : ∀ j u, news[j]? = some u → w.cell? (ad.add j) = some u) (h1 : ∀ u ∈ news, u.oneCell' = true)
    (h63 : n + m ≤ maxLen) (hbytes : (n + m) * bytes ≤ 140737488355328)
    (h : ∀ v' w', Own w' e size v' (n + m) (xs ++ news) → w.grownBy w' v.ownBlock → (v'.ownBlock = v.ownBlock ∨ v'.ownBlock = some w.heap.size) → (0 < n + m → v'.ownBlock ≠ none) → (v' = .slice none 0 0 ↔ v = .slice none 0 0 ∧ m = 0) → wpList P ops Q rest (a.put o.dst v') w') : wpList P ops Q (o :: rest) a w :=
  wpList_plain hgd fun _ hK => wp_append s x t ho e i z size bytes ht hi hz hsize hby hzs v n xs hs hown ad m c news hx hl hnews h1 h63 hbytes fun v' w' a1 a2 a3 a4 a5 => hK _ _ (h v' w' a1 a2 a3 a4 a5)

/-- append of ONE element that has just been laid in a block of its own (append(xs, x)). -/
theorem wpL_append1 {P : Program} {w : World} {ops : Array Oper} {rest : List Oper} {o : Oper} {a : Act} {Q : Exit → Act → World → Prop} (hgd : o.guard = none) (s x : Operand) (t : TypeId)
    (ho : o.op = .call { callee := .builtin .append, args := #[s, x], argTypes := #[t, t] })
    (e : TypeId) (i : TypeInfo) (z : Value) (size bytes : Nat) (ht : P.underlying t = some (.slice e)) (hi : P.info? e = some i) (hz : i.zero = some z)
    (hsize : i.size = size) (hby : i.bytes = bytes) (hzs : z.cells.size = size)
    (v : Value) (n : Nat) (xs : List Value) (news : List Value) (hs : a.eval s = v) (hown : Own w e size v n xs)
    (hx : a.eval x = .slice (some ⟨w.heap.size, 0, none⟩) 1 1) (hl : news.length = size) (h1 : ∀ u ∈ news, u.oneCell' = true)
    (h63 : n + 1 ≤ maxLen) (hbytes : (n + 1) * bytes ≤ 140737488355328)
    (h : ∀ v' w', Own w' e size v' (n + 1) (xs ++ news) → w.grownBy w' v.ownBlock → (v'.ownBlock = v.ownBlock ∨ ∃ g, v'.ownBlock = some g ∧ w.heap.size ≤ g) → v'.ownBlock ≠ none → v' ≠ .slice none 0 0 → wpList P ops Q rest (a.put o.dst v') w') :
    wpList P ops Q (o :: rest) a (w.alloc (.cells news.toArray e)) := by
  refine wpL_append hgd s x t ho e i z size bytes ht hi hz hsize hby hzs v n xs hs (hown.alloc _) ⟨w.heap.size, 0, none⟩ 1 1 news hx (by simpa using hl) ?_ h1 h63 hbytes ?_
  · intro j u hu
    have hadd : (⟨w.heap.size, 0, none⟩ : Addr).add j = ⟨w.heap.size, j, none⟩ := by unfold Addr.add; split <;> simp_all
    rw [hadd, (Row.new w news.toArray e).cell]
    simpa using hu
  · intro v' w' b1 b2 b3 b4 b5
    refine h v' w' b1 ?_ ?_ (b4 (by omega)) (fun hv => by have := b5.1 hv; omega)
    · refine ⟨b2.os, b2.tape, b2.output, ?_, ?_⟩
      · have := b2.size; rw [size_alloc] at this; omega
      · intro k hk hne
        exact (b2.block k (by rw [size_alloc]; omega) hne).trans (Below.heap_alloc w _ k hk)
    · rcases b3 with b3 | b3
      · exact .inl b3
      · exact .inr ⟨_, b3, by rw [size_alloc]; omega⟩
end Go.Proofs.Ytjnjppikhdfomaa.B

namespace Go.Proofs.Ytjnjppikhdfomaa
open Go Go.RowKit Go.Proofs B

theorem Try.infoInt : (Try.prog.info? 3).map (fun i => (i.zero, i.size, i.bytes)) = some (some (.int .i64 0), 1, 8) := by kernel_rfl

namespace Rng
set_option maxHeartbeats 400000 in
theorem empty_any (r o : Nat) (g : Int) (a : Option Addr) (n c : Nat) (w : World) (h : w.cell? ⟨r, o, none⟩ = some (.slice a n c)) (h1 : w.cell? ⟨r, o + 1, none⟩ = some (.int .i64 g)) :
    Calls Try.prog 85 #[.pointer (some ⟨r, o, none⟩)] w fun e w' => e = .returned (.bool (decide (g = n))) ∧ ∃ k, w' = w.drewN k := by
  go_enter Try.func85, Try.ntmps85
  go_wp2
  go_quiet (fail)
  go_wp2
  go_ret
  exact ⟨rfl, _, rfl⟩

set_option maxHeartbeats 400000 in
theorem bput (r o : Nat) (t : TypeId) (c : Array Value) (V : Value) (n : Nat) (xs : List Value) (item : Int) (w : World) (hr : Row w r t c) (hc : c[o]? = some V)
    (hown : Own w 3 1 V n xs) (hne : V.ownBlock ≠ some r) (hn : n < 1099511627776) :
    Calls Try.prog 104 #[.pointer (some ⟨r, o, none⟩), .int .i64 item] w fun e w' => e = .returned (.tuple #[]) ∧
      ∃ V', Own w' 3 1 V' (n + 1) (xs ++ [.int .i64 item]) ∧ Row w' r t (c.setIfInBounds o V') ∧ Fr (fun k => k = r ∨ V.ownBlock = some k) w w' ∧
        (V'.ownBlock = V.ownBlock ∨ ∃ g, V'.ownBlock = some g ∧ w.heap.size ≤ g) ∧ V'.ownBlock ≠ none := by
  obtain ⟨i0, hi, hz0, hz1, hz2⟩ := info_parts Try.infoInt
  have h0 : w.cell? ⟨r, o, none⟩ = some V := by rw [hr.cell]; exact hc
  go_enter Try.func104, Try.ntmps104
  go_wp2_with (at_builtin; refine wpL_append1 rfl (.tmp 8) (.tmp 10) 25 rfl 3 i0 (.int .i64 0) 1 8 Try.underlying25 hi hz0 hz1 hz2 rfl V n xs [.int .i64 item] rfl hown rfl rfl ?h1 ?h63 ?hb ?_)
  case h1 => intro u hu; simp at hu; subst hu; rfl
  case h63 => unfold maxLen; omega
  case hb => omega
  · intro V' w1 hown' hgrow hblk hnn _
    have hr1 : Row w1 r t c := hr.grown hgrow (fun e => hne e.symm)
    have c1 : w1.cell? ⟨r, o, none⟩ = some V := by rw [hr1.cell]; exact hc
    have f1 := hr1.free o
    have hlt := hr.lt
    have hF : Fr (fun k => k = r ∨ V.ownBlock = some k) w w1 := (Fr.refl _ w).grown hgrow (fun k hk _ => Or.inr hk)
    have HF := Hid.out (p := ∀ v, Fr (fun k => k = r ∨ V.ownBlock = some k) w (w1.setCell ⟨r, o, none⟩ v)) (fun v => hF.setCell (fun _ => Or.inl rfl) v)
    have hob : V'.ownBlock ≠ some r := by
      rcases hblk with h | ⟨g, h, hg⟩
      · rw [h]; exact hne
      · rw [h]; intro e; injection e with e; omega
    have HO : Own (w1.setCell ⟨r, o, none⟩ V') 3 1 V' (n + 1) (xs ++ [.int .i64 item]) := hown'.fr (F := fun k => k = r) ((Fr.refl (fun k => k = r) w1).setCell (p := ⟨r, o, none⟩) (fun _ => rfl) V') (fun k hk e => hob (by rw [hk, e]))
    have HR := hr1.set o V'
    have hres := (show ∃ V'', Own (w1.setCell ⟨r, o, none⟩ V') 3 1 V'' (n + 1) (xs ++ [.int .i64 item]) ∧ Row (w1.setCell ⟨r, o, none⟩ V') r t (c.setIfInBounds o V'') ∧ Fr (fun k => k = r ∨ V.ownBlock = some k) w (w1.setCell ⟨r, o, none⟩ V') ∧
        (V''.ownBlock = V.ownBlock ∨ ∃ g, V''.ownBlock = some g ∧ w.heap.size ≤ g) ∧ V''.ownBlock ≠ none from ⟨V', HO, HR, HF V', hblk, hnn⟩)
    obtain ⟨A, cp, hv, _⟩ := hown'.slice
    clear hown' hgrow hr1 hF HF HO HR hblk hnn hob hown hr hc h0
    subst hv
    have HH : Hid _ := hres
    clear hres
    go_wp2
    go_end0
    exact ⟨rfl, HH⟩
/-- What the ring's circle of buckets is: a block of 514 cells; each bucket a slice of its own and how many of it went; what waits there. -/
structure Ring (w : World) (r : Nat) (F : Nat → Prop) (at_ len : Int) (tot : Nat) (q : Nat → List Int) (c : Array Value) (V : Nat → Value) (I : Nat → List Int) (g : Nat → Nat) : Prop where
  row : Row w r 104 c
  size : c.size = 514
  c0 : c[0]? = some (.int .i64 at_)
  c1 : c[1]? = some (.int .i64 len)
  cV : ∀ i, i < 256 → c[2 + i * 2]? = some (V i)
  cg : ∀ i, i < 256 → c[2 + i * 2 + 1]? = some (.int .i64 (g i : Nat))
  own : ∀ i, i < 256 → Own w 3 1 (V i) (I i).length ((I i).map (Value.int .i64))
  tot : ∀ i, i < 256 → (I i).length ≤ tot
  wait : ∀ i, i < 256 → q i = (I i).drop (g i)
  gone : ∀ i, i < 256 → g i < (I i).length ∨ (I i = [] ∧ g i = 0)
  foot : ∀ i, i < 256 → ∀ k, (V i).ownBlock = some k → F k ∧ k ≠ r
  sep : ∀ i j, i < 256 → j < 256 → i ≠ j → ∀ k, (V i).ownBlock = some k → (V j).ownBlock ≠ some k
  self : F r

def RingAt (w : World) (r : Nat) (F : Nat → Prop) (at_ len : Int) (tot : Nat) (q : Nat → List Int) : Prop := ∃ c V I g, Ring w r F at_ len tot q c V I g

theorem Ring.other {w w' : World} {r : Nat} {F G : Nat → Prop} {at_ len : Int} {tot : Nat} {q : Nat → List Int} {c : Array Value} {V : Nat → Value} {I : Nat → List Int} {g : Nat → Nat}
    (h : Ring w r F at_ len tot q c V I g) (hf : Fr G w w') (hG : ∀ k, F k → ¬ G k) : Ring w' r F at_ len tot q c V I g :=
  { h with row := h.row.fr hf (hG r h.self), own := fun i hi => (h.own i hi).fr hf (fun k hk => hG k (h.foot i hi k hk).1) }
/-- What else is written leaves a ring as it was. -/
theorem RingAt.other {w w' : World} {r : Nat} {F G : Nat → Prop} {at_ len : Int} {tot : Nat} {q : Nat → List Int} (h : RingAt w r F at_ len tot q) (hf : Fr G w w') (hG : ∀ k, F k → ¬ G k) : RingAt w' r F at_ len tot q := by
  obtain ⟨c, V, I, g, h⟩ := h
  exact ⟨c, V, I, g, h.other hf hG⟩
theorem RingAt.lt {w : World} {r : Nat} {F : Nat → Prop} {at_ len : Int} {tot : Nat} {q : Nat → List Int} (h : RingAt w r F at_ len tot q) : r < w.heap.size := by
  obtain ⟨c, V, I, g, h⟩ := h; exact h.row.lt

def upd {α : Type} (f : Nat → α) (i : Nat) (x : α) : Nat → α := fun j => if j = i then x else f j
theorem upd_same {α : Type} (f : Nat → α) (i : Nat) (x : α) : upd f i x i = x := by simp [upd]
theorem upd_other {α : Type} (f : Nat → α) {i j : Nat} (x : α) (h : j ≠ i) : upd f i x j = f j := by simp [upd, h]

set_option maxHeartbeats 800000 in
theorem bpop_more (r o : Nat) (t : TypeId) (c : Array Value) (gb cap : Nat) (I : List Int) (g : Nat) (w : World) (hr : Row w r t c) (hc : c[o]? = some (.slice (some ⟨gb, 0, none⟩) I.length cap)) (hc1 : c[o + 1]? = some (.int .i64 g))
    (hown : Own w 3 1 (.slice (some ⟨gb, 0, none⟩) I.length cap) I.length (I.map (Value.int .i64))) (hne : gb ≠ r) (hg : g + 1 < I.length) (hn : I.length ≤ 1099511627776) :
    Calls Try.prog 86 #[.pointer (some ⟨r, o, none⟩)] w fun e w' => e = .returned (.int .i64 (I.getD g 0)) ∧
      Row w' r t (c.setIfInBounds (o + 1) (.int .i64 (g + 1 : Nat))) ∧ Fr (fun k => k = r) w w' := by
  have h0 : w.cell? ⟨r, o, none⟩ = some (.slice (some ⟨gb, 0, none⟩) I.length cap) := by rw [hr.cell]; exact hc
  have h1 : w.cell? ⟨r, o + 1, none⟩ = some (.int .i64 g) := by rw [hr.cell]; exact hc1
  have f1 : w.frozen? ⟨r, o + 1, none⟩ = false := hr.free _
  have h2 : w.cell? ⟨gb, g, none⟩ = some (.int .i64 (I.getD g 0)) := by
    refine hown.cells rfl g _ ?_
    rw [List.getElem?_map, List.getElem?_eq_getElem (by omega)]
    simp [List.getD, List.getElem?_eq_getElem (show g < I.length by omega)]
  generalize I.getD g 0 = x at h2 ⊢
  have b0 : (0 : Int) ≤ (g : Int) := by omega
  have b1 : (g : Int) < (I.length : Int) := by omega
  have b2 : decide ((g : Int) + 1 = (I.length : Int)) = false := by simp; omega
  have b3 : (I.length : Int) ≤ 1099511627776 := by omega
  have HR : Hid (∀ k j, Row (((w.drewN k).setCell ⟨r, o + 1, none⟩ (.int .i64 ((g : Int) + 1))).drewN j) r t (c.setIfInBounds (o + 1) (.int .i64 (g + 1 : Nat))) ∧ Fr (fun k => k = r) w (((w.drewN k).setCell ⟨r, o + 1, none⟩ (.int .i64 ((g : Int) + 1))).drewN j)) :=
    fun k j => ⟨((hr.drewN k).set _ _).drewN j, (((Fr.refl (fun k => k = r) w).drewN k).setCell (p := ⟨r, o + 1, none⟩) (fun _ => rfl) _).drewN j⟩
  have HE : Hid (∀ k, ((w.drewN k).setCell ⟨r, o + 1, none⟩ (.int .i64 ((g : Int) + 1))).cell? ⟨r, o, none⟩ = some (.slice (some ⟨gb, 0, none⟩) I.length cap) ∧ ((w.drewN k).setCell ⟨r, o + 1, none⟩ (.int .i64 ((g : Int) + 1))).cell? ⟨r, o + 1, none⟩ = some (.int .i64 ((g : Int) + 1))) :=
    fun k => ⟨by rw [((hr.drewN k).set _ _).cell, Array.getElem?_setIfInBounds_ne (by omega)]; exact hc, by rw [((hr.drewN k).set _ _).cell, Array.getElem?_setIfInBounds_self, if_pos (Array.getElem?_eq_some_iff.1 hc1).1]⟩
  clear hr hc hc1 hown hn hg
  go_enter Try.func86, Try.ntmps86
  go_wp2
  go_quiet (fail)
  go_wp2_with (go_at_call 85; refine (empty_any r o ((g : Int) + 1) (some ⟨gb, 0, none⟩) I.length cap _ (HE.out _).1 (HE.out _).2).mono ?_; rintro e w' ⟨rfl, k, rfl⟩)
  go_ret
  exact ⟨rfl, HR.out _ _⟩

set_option maxHeartbeats 800000 in
theorem bpop_last (r o : Nat) (t : TypeId) (c : Array Value) (gb cap : Nat) (I : List Int) (g : Nat) (w : World) (hr : Row w r t c) (hc : c[o]? = some (.slice (some ⟨gb, 0, none⟩) I.length cap)) (hc1 : c[o + 1]? = some (.int .i64 g))
    (hown : Own w 3 1 (.slice (some ⟨gb, 0, none⟩) I.length cap) I.length (I.map (Value.int .i64))) (hne : gb ≠ r) (hg : g + 1 = I.length) (hn : I.length ≤ 1099511627776) :
    Calls Try.prog 86 #[.pointer (some ⟨r, o, none⟩)] w fun e w' => e = .returned (.int .i64 (I.getD g 0)) ∧
      Row w' r t ((c.setIfInBounds o (.slice (some ⟨gb, 0, none⟩) 0 cap)).setIfInBounds (o + 1) (.int .i64 0)) ∧ Fr (fun k => k = r) w w' := by
  have h0 : w.cell? ⟨r, o, none⟩ = some (.slice (some ⟨gb, 0, none⟩) I.length cap) := by rw [hr.cell]; exact hc
  have h1 : w.cell? ⟨r, o + 1, none⟩ = some (.int .i64 g) := by rw [hr.cell]; exact hc1
  have f1 : w.frozen? ⟨r, o + 1, none⟩ = false := hr.free _
  have f0 : w.frozen? ⟨r, o, none⟩ = false := hr.free _
  have h2 : w.cell? ⟨gb, g, none⟩ = some (.int .i64 (I.getD g 0)) := by
    refine hown.cells rfl g _ ?_
    rw [List.getElem?_map, List.getElem?_eq_getElem (by omega)]
    simp [List.getD, List.getElem?_eq_getElem (show g < I.length by omega)]
  generalize I.getD g 0 = x at h2 ⊢
  have b0 : (0 : Int) ≤ (g : Int) := by omega
  have b1 : (g : Int) < (I.length : Int) := by omega
  have b2 : decide ((g : Int) + 1 = (I.length : Int)) = true := by simp; omega
  have b3 : (I.length : Int) ≤ 1099511627776 := by omega
  have e0 : ∀ (x y z : Value), ((c.setIfInBounds (o + 1) x).setIfInBounds o y).setIfInBounds (o + 1) z = (c.setIfInBounds o y).setIfInBounds (o + 1) z := by
    intro x y z
    apply Array.ext_getElem?
    intro i
    simp only [Array.getElem?_setIfInBounds, Array.size_setIfInBounds]
    by_cases hi : o + 1 = i
    · simp [hi]
    · simp [hi]
  have HR : Hid (∀ k j, Row (((((w.drewN k).setCell ⟨r, o + 1, none⟩ (.int .i64 ((g : Int) + 1))).drewN j).setCell ⟨r, o, none⟩ (.slice (some ⟨gb, 0, none⟩) 0 cap)).setCell ⟨r, o + 1, none⟩ (.int .i64 0)) r t ((c.setIfInBounds o (.slice (some ⟨gb, 0, none⟩) 0 cap)).setIfInBounds (o + 1) (.int .i64 0)) ∧
      Fr (fun k => k = r) w (((((w.drewN k).setCell ⟨r, o + 1, none⟩ (.int .i64 ((g : Int) + 1))).drewN j).setCell ⟨r, o, none⟩ (.slice (some ⟨gb, 0, none⟩) 0 cap)).setCell ⟨r, o + 1, none⟩ (.int .i64 0))) := by
    intro k j
    refine ⟨?_, ((((((Fr.refl (fun k => k = r) w).drewN k).setCell (p := ⟨r, o + 1, none⟩) (fun _ => rfl) _).drewN j).setCell (p := ⟨r, o, none⟩) (fun _ => rfl) _).setCell (p := ⟨r, o + 1, none⟩) (fun _ => rfl) _)⟩
    rw [← e0]
    exact (((((hr.drewN k).set _ _).drewN j).set _ _).set _ _)
  have HE : Hid (∀ k, ((w.drewN k).setCell ⟨r, o + 1, none⟩ (.int .i64 ((g : Int) + 1))).cell? ⟨r, o, none⟩ = some (.slice (some ⟨gb, 0, none⟩) I.length cap) ∧ ((w.drewN k).setCell ⟨r, o + 1, none⟩ (.int .i64 ((g : Int) + 1))).cell? ⟨r, o + 1, none⟩ = some (.int .i64 ((g : Int) + 1))) :=
    fun k => ⟨by rw [((hr.drewN k).set _ _).cell, Array.getElem?_setIfInBounds_ne (by omega)]; exact hc, by rw [((hr.drewN k).set _ _).cell, Array.getElem?_setIfInBounds_self, if_pos (Array.getElem?_eq_some_iff.1 hc1).1]⟩
  clear hr hc hc1 hown hn hg e0
  go_enter Try.func86, Try.ntmps86
  go_wp2
  go_quiet (fail)
  go_wp2_with (go_at_call 85; refine (empty_any r o ((g : Int) + 1) (some ⟨gb, 0, none⟩) I.length cap _ (HE.out _).1 (HE.out _).2).mono ?_; rintro e w' ⟨rfl, k, rfl⟩)
  go_ret
  exact ⟨rfl, HR.out _ _⟩

theorem ix_lt (key : Int) (h : 0 ≤ key) : (key % 256).toNat < 256 := by omega

theorem setR_get (c : Array Value) (o j : Nat) (v : Value) (h : o ≠ j) : (c.setIfInBounds o v)[j]? = c[j]? := Array.getElem?_setIfInBounds_ne h
theorem setR_self (c : Array Value) (o : Nat) (v : Value) (h : o < c.size) : (c.setIfInBounds o v)[o]? = some v := by
  rw [Array.getElem?_setIfInBounds_self, if_pos h]

def PutPost (w : World) (r : Nat) (F : Nat → Prop) (at_ len : Int) (tot : Nat) (q : Nat → List Int) (i : Nat) (item : Int) (w' : World) : Prop :=
  ∃ F' : Nat → Prop, RingAt w' r F' at_ (len + 1) (tot + 1) (upd q i (q i ++ [item])) ∧ (∀ k, F' k → F k ∨ w.heap.size ≤ k) ∧ Fr F w w'

theorem put_mem {w w1 : World} {r : Nat} {F : Nat → Prop} {at_ len : Int} {tot : Nat} {q : Nat → List Int} {c : Array Value} {V : Nat → Value} {I : Nat → List Int} {g : Nat → Nat} (H : Ring w r F at_ len tot q c V I g)
    (i : Nat) (hi : i < 256) (item : Int) (V' : Value) (o1 : Own w1 3 1 V' ((I i).length + 1) ((I i).map (Value.int .i64) ++ [.int .i64 item])) (o2 : Row w1 r 104 (c.setIfInBounds (2 + i * 2) V'))
    (o3 : Fr (fun k => k = r ∨ (V i).ownBlock = some k) w w1) (o4 : V'.ownBlock = (V i).ownBlock ∨ ∃ g, V'.ownBlock = some g ∧ w.heap.size ≤ g) :
    PutPost w r F at_ len tot q i item (w1.setCell ⟨r, 1, none⟩ (.int .i64 (len + 1))) := by
  have hw := H.row.lt
  have hlt := fun j hj k hk => (H.own j hj).lt k hk
  have hV' : ∀ k, V'.ownBlock = some k → k ≠ r ∧ ∀ j, j < 256 → j ≠ i → (V j).ownBlock ≠ some k := by
    intro k hk
    rcases o4 with h | ⟨g0, h, hg0⟩
    · rw [h] at hk
      exact ⟨(H.foot i hi k hk).2, fun j hj hji => H.sep i j hi hj (fun e => hji e.symm) k hk⟩
    · rw [h] at hk; injection hk with hk; subst hk
      exact ⟨by omega, fun j hj _ hk => by have := hlt j hj _ hk; omega⟩
  have hs : Fr (fun k => k = r) w1 (w1.setCell ⟨r, 1, none⟩ (.int .i64 (len + 1))) := (Fr.refl (fun k => k = r) w1).setCell (p := ⟨r, 1, none⟩) (fun _ => rfl) _
  refine ⟨fun k => F k ∨ V'.ownBlock = some k, ⟨(c.setIfInBounds (2 + i * 2) V').setIfInBounds 1 (.int .i64 (len + 1)), upd V i V', upd I i (I i ++ [item]), g, ?_⟩, ?_, ?_⟩
  · refine ⟨o2.set _ _, by simpa using H.size, ?_, ?_, ?_, ?_, ?_, ?_, ?_, ?_, ?_, ?_, .inl H.self⟩
    · rw [setR_get _ _ _ _ (by omega), setR_get _ _ _ _ (by omega)]; exact H.c0
    · rw [setR_self _ _ _ (by have := H.size; simp; omega)]
    · intro j hj
      rw [setR_get _ _ _ _ (by omega)]
      by_cases e : j = i
      · subst e; rw [setR_self _ _ _ (by have := H.size; omega), upd_same]
      · rw [setR_get _ _ _ _ (by omega), upd_other _ _ e]; exact H.cV j hj
    · intro j hj
      rw [setR_get _ _ _ _ (by omega), setR_get _ _ _ _ (by omega)]; exact H.cg j hj
    · intro j hj
      by_cases e : j = i
      · subst e; simp only [upd_same, List.length_append, List.length_cons, List.length_nil, List.map_append, List.map_cons, List.map_nil]
        exact o1.fr hs (fun k hk => (hV' k hk).1)
      · simp only [upd_other _ _ e]
        refine ((H.own j hj).fr o3 ?_).fr hs (fun k hk => (H.foot j hj k hk).2)
        rintro k hk (rfl | h)
        · exact (H.foot j hj _ hk).2 rfl
        · exact H.sep i j hi hj (fun e' => e e'.symm) k h hk
    · intro j hj
      by_cases e : j = i
      · subst e; simp only [upd_same, List.length_append, List.length_cons, List.length_nil]; have := H.tot j hj; omega
      · simp only [upd_other _ _ e]; have := H.tot j hj; omega
    · intro j hj
      by_cases e : j = i
      · subst e; simp only [upd_same]; rw [H.wait j hj, List.drop_append_of_le_length]; rcases H.gone j hj with h | ⟨h, h'⟩ <;> omega
      · simp only [upd_other _ _ e]; exact H.wait j hj
    · intro j hj
      by_cases e : j = i
      · subst e; simp only [upd_same, List.length_append, List.length_cons, List.length_nil]
        rcases H.gone j hj with h | ⟨h, h'⟩
        · exact .inl (by omega)
        · exact .inl (by omega)
      · simp only [upd_other _ _ e]; exact H.gone j hj
    · intro j hj k hk
      by_cases e : j = i
      · subst e; rw [upd_same] at hk; exact ⟨.inr hk, (hV' k hk).1⟩
      · rw [upd_other _ _ e] at hk; exact ⟨.inl (H.foot j hj k hk).1, (H.foot j hj k hk).2⟩
    · intro a b ha hb hab k hk
      by_cases e : a = i
      · subst e; rw [upd_same] at hk; rw [upd_other _ _ (fun e => hab e.symm)]; exact (hV' k hk).2 b hb (fun e => hab e.symm)
      · rw [upd_other _ _ e] at hk
        by_cases e' : b = i
        · subst e'; rw [upd_same]; intro h'; exact (hV' k h').2 a ha e hk
        · rw [upd_other _ _ e']; exact H.sep a b ha hb hab k hk
  · rintro k (h | h)
    · exact .inl h
    · rcases o4 with h4 | ⟨g0, h4, hg0⟩
      · rw [h4] at h; exact .inl (H.foot i hi k h).1
      · rw [h4] at h; injection h with h; subst h; exact .inr hg0
  · refine (o3.mono ?_).trans hs ?_
    · rintro k _ (rfl | h)
      · exact H.self
      · exact (H.foot i hi k h).1
    · rintro k _ rfl; exact H.self

set_option maxHeartbeats 800000 in
theorem rput_yes (r : Nat) (F : Nat → Prop) (at_ len : Int) (tot : Nat) (q : Nat → List Int) (key item : Int) (w : World) (h : RingAt w r F at_ len tot q)
    (b0 : 0 ≤ at_) (b1 : at_ ≤ 1099511627776) (k0 : at_ ≤ key) (k1 : key - at_ < 256) (l0 : 0 ≤ len) (l1 : len < 1099511627776) (t1 : tot < 1099511627776) :
    Calls Try.prog 84 #[.pointer (some ⟨r, 0, none⟩), .int .i64 key, .int .i64 item] w fun e w' => e = .returned (.bool true) ∧ PutPost w r F at_ len tot q (key % 256).toNat item w' := by
  obtain ⟨c, V, I, g, H⟩ := h
  have hi := ix_lt key (by omega)
  have h0 : w.cell? ⟨r, 0, none⟩ = some (.int .i64 at_) := by rw [H.row.cell]; exact H.c0
  have HB := Lib.hid (bput r (2 + (key % 256).toNat * 2) _ c (V (key % 256).toNat) _ _ item w H.row (H.cV _ hi) (H.own _ hi) (fun e => (H.foot _ hi _ e).2 rfl) (by have := H.tot _ hi; omega))
  have HP := Lib.hid (put_mem (w1 := w) H (key % 256).toNat hi item)
  have HPM : Hid (∀ w1 V', Own w1 3 1 V' ((I (key % 256).toNat).length + 1) ((I (key % 256).toNat).map (Value.int .i64) ++ [.int .i64 item]) → Row w1 r 104 (c.setIfInBounds (2 + (key % 256).toNat * 2) V') → Fr (fun k => k = r ∨ (V (key % 256).toNat).ownBlock = some k) w w1 →
      (V'.ownBlock = (V (key % 256).toNat).ownBlock ∨ ∃ g, V'.ownBlock = some g ∧ w.heap.size ≤ g) → PutPost w r F at_ len tot q (key % 256).toNat item (w1.setCell ⟨r, 1, none⟩ (.int .i64 (len + 1)))) :=
    fun w1 V' o1 o2 o3 o4 => put_mem H _ hi item V' o1 o2 o3 o4
  have hc1 := H.c1
  have HC1 := Lib.hid hc1
  clear hc1 H HP hi
  go_enter Try.func84, Try.ntmps84
  go_wp2_with fail
  refine HB.out.mono ?_
  rintro e w1 ⟨rfl, V', o1, o2, o3, o4, _⟩
  have d1 : w1.cell? ⟨r, 1, none⟩ = some (.int .i64 len) := by rw [o2.cell, setR_get _ _ _ _ (by omega)]; exact HC1.out
  have d2 := o2.free 1
  have HF := Lib.hid (HPM.out w1 V' o1 o2 o3 o4)
  clear o1 o2 o3 o4 HPM HC1 HB
  go_wp2
  go_ret
  exact ⟨rfl, HF.out⟩

set_option maxHeartbeats 800000 in
theorem rput_no (r : Nat) (F : Nat → Prop) (at_ len : Int) (tot : Nat) (q : Nat → List Int) (key item : Int) (w : World) (h : RingAt w r F at_ len tot q)
    (b0 : 0 ≤ at_) (b1 : at_ ≤ 1099511627776) (k0 : at_ ≤ key) (k1 : 256 ≤ key - at_) (k2 : key ≤ 1099511627776) :
    Calls Try.prog 84 #[.pointer (some ⟨r, 0, none⟩), .int .i64 key, .int .i64 item] w fun e w' => e = .returned (.bool false) ∧ w = w' := by
  obtain ⟨c, V, I, g, H⟩ := h
  have h0 : w.cell? ⟨r, 0, none⟩ = some (.int .i64 at_) := by rw [H.row.cell]; exact H.c0
  clear H
  go_enter Try.func84, Try.ntmps84
  go_wp2
  go_ret
  exact ⟨rfl, rfl⟩

set_option maxHeartbeats 400000 in
theorem rlen (r : Nat) (F : Nat → Prop) (at_ len : Int) (tot : Nat) (q : Nat → List Int) (w : World) (h : RingAt w r F at_ len tot q) :
    Calls Try.prog 60 #[.pointer (some ⟨r, 0, none⟩)] w fun e w' => e = .returned (.int .i64 len) ∧ w = w' := by
  obtain ⟨c, V, I, g, H⟩ := h
  have h0 : w.cell? ⟨r, 1, none⟩ = some (.int .i64 len) := by rw [H.row.cell]; exact H.c1
  clear H
  go_enter Try.func60, Try.ntmps60
  go_wp2
  go_ret
  exact ⟨rfl, rfl⟩

theorem jump_mem {w : World} {r : Nat} {F : Nat → Prop} {at_ len : Int} {tot : Nat} {q : Nat → List Int} {c : Array Value} {V : Nat → Value} {I : Nat → List Int} {g : Nat → Nat} (H : Ring w r F at_ len tot q c V I g) (key : Int) :
    RingAt (w.setCell ⟨r, 0, none⟩ (.int .i64 key)) r F key len tot q ∧ Fr F w (w.setCell ⟨r, 0, none⟩ (.int .i64 key)) := by
  have hs : Fr (fun k => k = r) w (w.setCell ⟨r, 0, none⟩ (.int .i64 key)) := (Fr.refl (fun k => k = r) w).setCell (p := ⟨r, 0, none⟩) (fun _ => rfl) _
  refine ⟨⟨c.setIfInBounds 0 (.int .i64 key), V, I, g, { H with row := H.row.set _ _, size := by simpa using H.size, c0 := ?_, c1 := ?_, cV := ?_, cg := ?_, own := ?_ }⟩, hs.mono (by rintro k _ rfl; exact H.self)⟩
  · rw [setR_self _ _ _ (by have := H.size; omega)]
  · rw [setR_get _ _ _ _ (by omega)]; exact H.c1
  · intro j hj; rw [setR_get _ _ _ _ (by omega)]; exact H.cV j hj
  · intro j hj; rw [setR_get _ _ _ _ (by omega)]; exact H.cg j hj
  · intro j hj; exact (H.own j hj).fr hs (fun k hk => (H.foot j hj k hk).2)

set_option maxHeartbeats 800000 in
theorem rjump (r : Nat) (F : Nat → Prop) (at_ : Int) (tot : Nat) (q : Nat → List Int) (key : Int) (w : World) (h : RingAt w r F at_ 0 tot q) (k0 : at_ ≤ key) (k2 : key ≤ 1099511627776) :
    Calls Try.prog 83 #[.pointer (some ⟨r, 0, none⟩), .int .i64 key] w fun e w' => e = .returned (.bool true) ∧ RingAt w' r F key 0 tot q ∧ Fr F w w' := by
  obtain ⟨c, V, I, g, H⟩ := h
  have h0 : w.cell? ⟨r, 0, none⟩ = some (.int .i64 at_) := by rw [H.row.cell]; exact H.c0
  have h1 : w.cell? ⟨r, 1, none⟩ = some (.int .i64 0) := by rw [H.row.cell]; exact H.c1
  have f0 := H.row.free 0
  have HF := Lib.hid (jump_mem H key)
  clear H
  go_enter Try.func83, Try.ntmps83
  go_wp2
  go_ret
  exact ⟨rfl, HF.out⟩
end Rng
end Go.Proofs.Ytjnjppikhdfomaa

namespace Go.Proofs.Ytjnjppikhdfomaa
open Go Go.RowKit Go.Proofs B
namespace Rng

theorem RingAt.drewN {w : World} {r : Nat} {F : Nat → Prop} {at_ len : Int} {tot : Nat} {q : Nat → List Int} (h : RingAt w r F at_ len tot q) (n : Nat) : RingAt (w.drewN n) r F at_ len tot q :=
  h.other (G := fun _ => False) ((Fr.refl _ w).drewN n) (fun _ _ h => h)

/-- One step of the search for a bucket that is not empty. -/
theorem at_mem {w : World} {r : Nat} {F : Nat → Prop} {at_ len : Int} {tot : Nat} {q : Nat → List Int} (h : RingAt w r F at_ len tot q) (key : Int) (n : Nat) :
    RingAt ((w.drewN n).setCell ⟨r, 0, none⟩ (.int .i64 key)) r F key len tot q ∧ Fr F w ((w.drewN n).setCell ⟨r, 0, none⟩ (.int .i64 key)) := by
  obtain ⟨c, V, I, g, H⟩ := h.drewN n
  obtain ⟨h1, h2⟩ := jump_mem H key
  exact ⟨h1, ((Fr.refl F w).drewN n).trans h2 (fun _ _ h => h)⟩

/-- What a bucket tells. -/
theorem empty_at {w : World} {r : Nat} {F : Nat → Prop} {at_ len : Int} {tot : Nat} {q : Nat → List Int} (h : RingAt w r F at_ len tot q) (i : Nat) (hi : i < 256) (k : Nat) :
    Calls Try.prog 85 #[.pointer (some ⟨r, 2 + i * 2, none⟩)] (w.drewN k) fun e w' => e = .returned (.bool (q i).isEmpty) ∧ ∃ m, w' = (w.drewN k).drewN m := by
  obtain ⟨c, V, I, g, H⟩ := h
  obtain ⟨A, cp, hv, _⟩ := (H.own i hi).slice
  have h0 : (w.drewN k).cell? ⟨r, 2 + i * 2, none⟩ = some (.slice A (I i).length cp) := by rw [(H.row.drewN k).cell, H.cV i hi, hv]
  have h1 : (w.drewN k).cell? ⟨r, 2 + i * 2 + 1, none⟩ = some (.int .i64 (g i : Nat)) := by rw [(H.row.drewN k).cell, H.cg i hi]
  have e : (q i).isEmpty = decide (((g i : Nat) : Int) = (I i).length) := by
    rw [H.wait i hi]
    rcases H.gone i hi with hg | ⟨h2, h3⟩
    · have e1 : decide (((g i : Nat) : Int) = (I i).length) = false := by simp; omega
      rw [e1, List.isEmpty_eq_false_iff, ne_eq, List.drop_eq_nil_iff]; omega
    · simp [h2, h3]
  rw [e]
  exact empty_any r (2 + i * 2) _ A _ cp _ h0 h1

def PopPost (w : World) (r : Nat) (F : Nat → Prop) (a0 len : Int) (tot : Nat) (q : Nat → List Int) (xs : List Int) (w' : World) : Prop :=
  RingAt w' r F a0 (len - 1) tot (upd q (a0 % 256).toNat xs) ∧ Fr F w w'

/-- What a bucket's pop does to the ring. -/
theorem pop_at {w : World} {r : Nat} {F : Nat → Prop} {at_ len : Int} {tot : Nat} {q : Nat → List Int} (h : RingAt w r F at_ len tot q) (i : Nat) (hi : i < 256) (x : Int) (xs : List Int) (hq : q i = x :: xs) (ht : tot ≤ 1099511627776) :
    Calls Try.prog 86 #[.pointer (some ⟨r, 2 + i * 2, none⟩)] w fun e w' => e = .returned (.int .i64 x) ∧ RingAt w' r F at_ len tot (upd q i xs) ∧ Fr F w w' ∧ w'.cell? ⟨r, 0, none⟩ = some (.int .i64 at_) := by
  obtain ⟨c, V, I, g, H⟩ := h
  obtain ⟨A, cp, hv, hA, _, hA2, _⟩ := (H.own i hi).slice
  have hwait := H.wait i hi
  rw [hq] at hwait
  have hgl : g i < (I i).length := by
    rcases H.gone i hi with h | ⟨h, h'⟩
    · exact h
    · rw [h] at hwait; simp at hwait
  obtain ⟨gb, rfl⟩ := hA (by omega)
  have hob : (V i).ownBlock = some gb := by rw [hv]; rfl
  have hne := (H.foot i hi gb hob).2
  have hown := H.own i hi
  rw [hv] at hown
  have hcV := H.cV i hi
  rw [hv] at hcV
  have hx : (I i).getD (g i) 0 = x := by
    have : (I i)[g i]? = some x := by have := congrArg (fun l => l[0]?) hwait; simpa using this.symm
    simp [List.getD, this]
  have hxs : (I i).drop (g i + 1) = xs := by
    have := congrArg (List.drop 1) hwait
    simpa [List.drop_drop] using this.symm
  have htot := H.tot i hi
  have sF : ∀ {w'}, Fr (fun k => k = r) w w' → Fr F w w' := fun h => h.mono (by rintro k _ rfl; exact H.self)
  by_cases hlast : g i + 1 = (I i).length
  · refine (bpop_last r (2 + i * 2) _ c gb cp (I i) (g i) w H.row hcV (H.cg i hi) hown hne hlast (by omega)).mono ?_
    rintro e w' ⟨rfl, hr, hf⟩
    rw [hx]
    refine ⟨rfl, ⟨_, upd V i (.slice (some ⟨gb, 0, none⟩) 0 cp), upd I i [], upd g i 0, hr, by simpa using H.size, ?_, ?_, ?_, ?_, ?_, ?_, ?_, ?_, ?_, ?_, H.self⟩, sF hf, ?_⟩
    · rw [setR_get _ _ _ _ (by omega), setR_get _ _ _ _ (by omega)]; exact H.c0
    · rw [setR_get _ _ _ _ (by omega), setR_get _ _ _ _ (by omega)]; exact H.c1
    · intro j hj
      rw [setR_get _ _ _ _ (by omega)]
      by_cases e : j = i
      · subst e; rw [setR_self _ _ _ (by have := H.size; omega), upd_same]
      · rw [setR_get _ _ _ _ (by omega), upd_other _ _ e]; exact H.cV j hj
    · intro j hj
      by_cases e : j = i
      · subst e; rw [setR_self _ _ _ (by have := H.size; simp; omega), upd_same]; rfl
      · rw [setR_get _ _ _ _ (by omega), setR_get _ _ _ _ (by omega), upd_other _ _ e]; exact H.cg j hj
    · intro j hj
      by_cases e : j = i
      · subst e; simp only [upd_same, List.map_nil, List.length_nil]
        exact (hown.take 0 (Nat.zero_le _)).fr hf (fun k hk e => hne (by rw [ownBlock_some] at hk; injection hk with hk; omega))
      · simp only [upd_other _ _ e]; exact (H.own j hj).fr hf (fun k hk => (H.foot j hj k hk).2)
    · intro j hj
      by_cases e : j = i
      · subst e; simp [upd_same]
      · simp only [upd_other _ _ e]; exact H.tot j hj
    · intro j hj
      by_cases e : j = i
      · subst e; simp only [upd_same]; rw [← hxs, hlast]; simp
      · simp only [upd_other _ _ e]; exact H.wait j hj
    · intro j hj
      by_cases e : j = i
      · subst e; right; simp [upd_same]
      · simp only [upd_other _ _ e]; exact H.gone j hj
    · intro j hj k hk
      by_cases e : j = i
      · subst e; rw [upd_same] at hk; exact H.foot j hj k (by rw [hob]; exact hk)
      · rw [upd_other _ _ e] at hk; exact H.foot j hj k hk
    · intro a b ha hb hab k hk
      have eV : ∀ j, (upd V i (.slice (some ⟨gb, 0, none⟩) 0 cp) j).ownBlock = (V j).ownBlock := by
        intro j; by_cases e : j = i
        · subst e; rw [upd_same, hob]; rfl
        · rw [upd_other _ _ e]
      rw [eV] at hk ⊢
      exact H.sep a b ha hb hab k hk
    · rw [hr.cell, setR_get _ _ _ _ (by omega), setR_get _ _ _ _ (by omega)]; exact H.c0
  · refine (bpop_more r (2 + i * 2) _ c gb cp (I i) (g i) w H.row hcV (H.cg i hi) hown hne (by omega) (by omega)).mono ?_
    rintro e w' ⟨rfl, hr, hf⟩
    rw [hx]
    refine ⟨rfl, ⟨_, V, I, upd g i (g i + 1), hr, by simpa using H.size, ?_, ?_, ?_, ?_, ?_, H.tot, ?_, ?_, H.foot, H.sep, H.self⟩, sF hf, ?_⟩
    · rw [setR_get _ _ _ _ (by omega)]; exact H.c0
    · rw [setR_get _ _ _ _ (by omega)]; exact H.c1
    · intro j hj
      rw [setR_get _ _ _ _ (by omega)]; exact H.cV j hj
    · intro j hj
      by_cases e : j = i
      · subst e; rw [setR_self _ _ _ (by have := H.size; omega), upd_same]
      · rw [setR_get _ _ _ _ (by omega), upd_other _ _ e]; exact H.cg j hj
    · intro j hj; exact (H.own j hj).fr hf (fun k hk => (H.foot j hj k hk).2)
    · intro j hj
      by_cases e : j = i
      · subst e; simp only [upd_same]; exact hxs.symm
      · simp only [upd_other _ _ e]; exact H.wait j hj
    · intro j hj
      by_cases e : j = i
      · subst e; simp only [upd_same]; left; omega
      · simp only [upd_other _ _ e]; exact H.gone j hj
    · rw [hr.cell, setR_get _ _ _ _ (by omega)]; exact H.c0

theorem len_mem {w : World} {r : Nat} {F : Nat → Prop} {at_ len : Int} {tot : Nat} {q : Nat → List Int} (h : RingAt w r F at_ len tot q) (len' : Int) :
    RingAt (w.setCell ⟨r, 1, none⟩ (.int .i64 len')) r F at_ len' tot q ∧ Fr F w (w.setCell ⟨r, 1, none⟩ (.int .i64 len')) := by
  obtain ⟨c, V, I, g, H⟩ := h
  have hs : Fr (fun k => k = r) w (w.setCell ⟨r, 1, none⟩ (.int .i64 len')) := (Fr.refl (fun k => k = r) w).setCell (p := ⟨r, 1, none⟩) (fun _ => rfl) _
  refine ⟨⟨c.setIfInBounds 1 (.int .i64 len'), V, I, g, { H with row := H.row.set _ _, size := by simpa using H.size, c0 := ?_, c1 := ?_, cV := ?_, cg := ?_, own := ?_ }⟩, hs.mono (by rintro k _ rfl; exact H.self)⟩
  · rw [setR_get _ _ _ _ (by omega)]; exact H.c0
  · rw [setR_self _ _ _ (by have := H.size; omega)]
  · intro j hj; rw [setR_get _ _ _ _ (by omega)]; exact H.cV j hj
  · intro j hj; rw [setR_get _ _ _ _ (by omega)]; exact H.cg j hj
  · intro j hj; exact (H.own j hj).fr hs (fun k hk => (H.foot j hj k hk).2)

theorem RingAt.cells {w : World} {r : Nat} {F : Nat → Prop} {at_ len : Int} {tot : Nat} {q : Nat → List Int} (h : RingAt w r F at_ len tot q) :
    w.cell? ⟨r, 0, none⟩ = some (.int .i64 at_) ∧ w.cell? ⟨r, 1, none⟩ = some (.int .i64 len) ∧ w.frozen? ⟨r, 0, none⟩ = false ∧ w.frozen? ⟨r, 1, none⟩ = false := by
  obtain ⟨c, V, I, g, H⟩ := h
  exact ⟨by rw [H.row.cell]; exact H.c0, by rw [H.row.cell]; exact H.c1, H.row.free _, H.row.free _⟩

def PopRel (w : World) (r : Nat) (F : Nat → Prop) (at_ a0 len : Int) (tot : Nat) (q : Nat → List Int) (k : Nat) (wr : World) : Prop :=
  ∃ a : Int, at_ ≤ a ∧ a ≤ a0 ∧ a + k = a0 ∧ RingAt wr r F a len tot q ∧ Fr F w wr

set_option maxHeartbeats 1600000 in
theorem rpop (r : Nat) (F : Nat → Prop) (at_ len : Int) (tot : Nat) (q : Nat → List Int) (a0 x : Int) (xs : List Int) (w : World) (h : RingAt w r F at_ len tot q)
    (b0 : 0 ≤ at_) (b1 : at_ ≤ a0) (b2 : a0 ≤ 1099511627776) (l0 : 0 < len) (l1 : len ≤ 1099511627776) (ht : tot ≤ 1099511627776)
    (hq : q (a0 % 256).toNat = x :: xs) (hb : ∀ a, at_ ≤ a → a < a0 → q (a % 256).toNat = []) :
    Calls Try.prog 61 #[.pointer (some ⟨r, 0, none⟩)] w fun e w' => e = .returned (.tuple #[.int .i64 a0, .int .i64 x, .bool true]) ∧ PopPost w r F a0 len tot q xs w' := by
  have HL := Lib.hid (rlen r F at_ len tot q w h)
  have H := Lib.hid h
  have HQ := Lib.hid hq
  have HB := Lib.hid hb
  clear h hq hb
  go_enter Try.func61, Try.ntmps61
  go_wp2_with (go_at_call 60; refine (HL.out).mono ?_; rintro e w' ⟨rfl, rfl⟩)
  clear HL
  go_loopg [] (a0 - at_).toNat (fun k wr => PopRel w r F at_ a0 len tot q k wr)
  case atStart => exact ⟨at_, Int.le_refl _, b1, by omega, H.out, Fr.refl _ _⟩
  case round =>
    obtain ⟨a, ha0, ha1, hk, hR, hF⟩ := hrel
    obtain ⟨d0, d1, f0, f1⟩ := hR.cells
    have hi := ix_lt a (by omega)
    have HE := Lib.hid (fun k => empty_at hR (a % 256).toNat hi k)
    have HR := Lib.hid hR
    have HF := Lib.hid hF
    clear hR hF hi
    by_cases hlt : a < a0
    · have he : (q (a % 256).toNat).isEmpty = true := by rw [HB.out a ha0 hlt]; rfl
      have HE2 : Hid (∀ k, Calls Try.prog 85 #[.pointer (some ⟨r, 2 + (a % 256).toNat * 2, none⟩)] (wr.drewN k) fun e w' => e = .returned (.bool true) ∧ ∃ m, w' = (wr.drewN k).drewN m) := fun k => by
        have := HE.out k; rw [he] at this; exact this
      clear HE he
      go_wp2
      go_quiet ((go_at_call 85; exact Calls.quiet_of (HE2.out _)))
      go_wp2
      go_roundg (gk - 1)
      case measure => omega
      case rel =>
        obtain ⟨m1, m2⟩ := at_mem HR.out (a + 1) nq
        exact ⟨a + 1, by omega, by omega, by omega, m1, HF.out.trans m2 (fun _ _ h => h)⟩
    · obtain rfl : a = a0 := by omega
      have HE2 : Hid (∀ k, Calls Try.prog 85 #[.pointer (some ⟨r, 2 + (a % 256).toNat * 2, none⟩)] (wr.drewN k) fun e w' => e = .returned (.bool false) ∧ ∃ m, w' = (wr.drewN k).drewN m) := fun k => by
        have := HE.out k; rw [HQ.out] at this; exact this
      clear HE
      go_wp2
      go_quiet ((go_at_call 85; exact Calls.quiet_of (HE2.out _)))
      obtain ⟨m1, m2⟩ := len_mem (HR.out.drewN nq) (len - 1)
      obtain ⟨m3, _, _, _⟩ := m1.cells
      have HPOP := Lib.hid (pop_at (w := ((wr.drewN nq).setCell ⟨r, 1, none⟩ (.int .i64 (len - 1))).drew) (m1.drewN 1) (a % 256).toNat (ix_lt a (by omega)) x xs HQ.out ht)
      have D := Lib.hid m3
      have HF2 := Lib.hid (((HF.out.drewN nq).trans m2 (fun _ _ h => h)).drewN 1)
      clear m1 m2 m3 HR HF HB HE2
      go_wp2
      have t1 : a.tmod 256 = a % 256 := Int.tmod_eq_emod_of_nonneg (by omega)
      have t2 : (0 : Int) ≤ a % 256 := by omega
      have t3 : a % 256 < (256 : Int) := by omega
      go_region_held3 (fun w' => w'.cell? ⟨r, 0, none⟩ = some (.int .i64 a)) (first | exact D.out | assumption) ((go_at_call 86; refine (HPOP.out).mono ?_; rintro e w' ⟨rfl, p1, p2, p3⟩))
      all_goals go_wp2
      all_goals go_ret3
      all_goals exact ⟨rfl, p1, HF2.out.trans p2 (fun _ _ h => h)⟩
end Rng
end Go.Proofs.Ytjnjppikhdfomaa

namespace Go.Proofs.Ytjnjppikhdfomaa
open Go Go.RowKit Go.Proofs B Rng
namespace Swp

/-- A seed: cell, side, key. -/
structure Sd where
  cell : Int
  side : Int
  key : Int

/-- Where a sweeper lies, and its tile. -/
structure Sh where
  s : Nat
  r : Nat
  d : Nat
  tb : Nat
  tof : Nat
  tcap : Nat
  qb : Nat
  dcap : Nat
  W : Int
  H : Int
  C : List Int

/-- What waits in a ring: how many, and under which key. -/
structure Qs where
  len : Int
  q : Nat → List Int

def inf : Int := 1099511627776

structure Sw (w : World) (h : Sh) (F : Nat → Prop) (at_ : Int) (tot : Nat) (z : Qs) (todo : List Sd) (D : List Int) (A : Option Addr) (cp : Nat) : Prop where
  row : Row w h.s 71 #[.int .i64 h.W, .int .i64 h.H, .slice (some ⟨h.tb, h.tof, none⟩) h.C.length h.tcap, .pointer (some ⟨h.r, 0, none⟩), .slice A todo.length cp, .slice (some ⟨h.d, 0, none⟩) D.length h.dcap]
  cp : todo.length ≤ cp
  todo : ∀ sd l, todo = sd :: l → ∃ o, A = some ⟨h.qb, o, none⟩ ∧ ∀ j x, todo[j]? = some x → w.cell? ⟨h.qb, o + j * 3, none⟩ = some (.int .i64 x.cell) ∧ w.cell? ⟨h.qb, o + j * 3 + 1, none⟩ = some (.int .i64 x.side) ∧ w.cell? ⟨h.qb, o + j * 3 + 2, none⟩ = some (.int .i64 x.key)
  bytes : ∀ j b, h.C[j]? = some b → w.cell? ⟨h.tb, h.tof + j, none⟩ = some (.int .u8 b)
  dist : Own w 3 1 (.slice (some ⟨h.d, 0, none⟩) D.length h.dcap) D.length (D.map (Value.int .i64))
  ring : RingAt w h.r F at_ z.len tot z.q
  ns : ¬ F h.s
  nd : ¬ F h.d
  nt : ¬ F h.tb
  nq : ¬ F h.qb
  sd : h.s ≠ h.d
  ts : h.tb ≠ h.s
  td : h.tb ≠ h.d
  qs : h.qb ≠ h.s
  qd : h.qb ≠ h.d
  tlt : h.tb < w.heap.size
  qlt : h.qb < w.heap.size

def SwA (w : World) (h : Sh) (F : Nat → Prop) (at_ : Int) (tot : Nat) (z : Qs) (todo : List Sd) (D : List Int) : Prop := ∃ A cp, Sw w h F at_ tot z todo D A cp

/-- The ring alone has turned. -/
theorem Sw.ring' {w w' : World} {h : Sh} {F F' : Nat → Prop} {at_ at' : Int} {tot tot' : Nat} {z z' : Qs} {todo : List Sd} {D : List Int} {A : Option Addr} {cp : Nat} (S : Sw w h F at_ tot z todo D A cp)
    (hf : Fr F w w') (hr : RingAt w' h.r F' at' z'.len tot' z'.q) (hF : ∀ k, F' k → F k ∨ w.heap.size ≤ k) : Sw w' h F' at' tot' z' todo D A cp := by
  have no : ∀ k, k < w.heap.size → ¬ F k → ¬ F' k := fun k hk hn h' => (hF k h').elim hn (fun h => by omega)
  have hdl : h.d < w.heap.size := S.dist.lt h.d rfl
  refine { S with row := S.row.fr hf S.ns, todo := ?_, bytes := ?_, dist := S.dist.fr hf (fun k hk => by rw [ownBlock_some] at hk; injection hk with hk; subst hk; exact S.nd), ring := hr, ns := no _ S.row.lt S.ns, nd := no _ hdl S.nd, nt := no _ S.tlt S.nt, nq := no _ S.qlt S.nq, tlt := Nat.lt_of_lt_of_le S.tlt hf.size, qlt := Nat.lt_of_lt_of_le S.qlt hf.size }
  · intro sd l hl
    obtain ⟨o, ha, hc⟩ := S.todo sd l hl
    refine ⟨o, ha, fun j x hx => ?_⟩
    obtain ⟨h1, h2, h3⟩ := hc j x hx
    exact ⟨(hf.cell (p := ⟨h.qb, _, none⟩) S.qlt S.nq).trans h1, (hf.cell (p := ⟨h.qb, _, none⟩) S.qlt S.nq).trans h2, (hf.cell (p := ⟨h.qb, _, none⟩) S.qlt S.nq).trans h3⟩
  · intro j b hb
    exact (hf.cell (p := ⟨h.tb, _, none⟩) S.tlt S.nt).trans (S.bytes j b hb)

theorem Ring.mono {w : World} {r : Nat} {F : Nat → Prop} {at_ len : Int} {tot tot' : Nat} {q : Nat → List Int} (h : RingAt w r F at_ len tot q) (ht : tot ≤ tot') : RingAt w r F at_ len tot' q := by
  obtain ⟨c, V, I, g, H⟩ := h
  exact ⟨c, V, I, g, { H with tot := fun i hi => Nat.le_trans (H.tot i hi) ht }⟩
theorem SwA.mono {w : World} {h : Sh} {F : Nat → Prop} {at_ : Int} {tot tot' : Nat} {z : Qs} {todo : List Sd} {D : List Int} (S : SwA w h F at_ tot z todo D) (ht : tot ≤ tot') : SwA w h F at_ tot' z todo D := by
  obtain ⟨A, cp, S⟩ := S
  exact ⟨A, cp, { S with ring := Ring.mono S.ring ht }⟩
theorem SwA.drewN {w : World} {h : Sh} {F : Nat → Prop} {at_ : Int} {tot : Nat} {z : Qs} {todo : List Sd} {D : List Int} (S : SwA w h F at_ tot z todo D) (n : Nat) : SwA (w.drewN n) h F at_ tot z todo D := by
  obtain ⟨A, cp, S⟩ := S
  exact ⟨A, cp, S.ring' ((Fr.refl F w).drewN n) (S.ring.drewN n) (fun _ h => .inl h)⟩

/-- One local is told. -/
def reachM (C D : List Int) (loc key : Int) (z : Qs) : Qs :=
  if C.getD loc.toNat 0 ≠ 255 ∧ D.getD loc.toNat 0 = inf then ⟨z.len + 1, upd z.q (key % 256).toNat (z.q (key % 256).toNat ++ [loc])⟩ else z

def SwPost (w : World) (h : Sh) (F : Nat → Prop) (at_ : Int) (tot : Nat) (z : Qs) (todo : List Sd) (D : List Int) (w' : World) : Prop :=
  ∃ F', SwA w' h F' at_ tot z todo D ∧ (∀ k, F' k → F k ∨ w.heap.size ≤ k) ∧ Fr F w w'

theorem getD_some {α : Type} {l : List α} {j : Nat} (d : α) (h : j < l.length) : l[j]? = some (l.getD j d) := by
  rw [List.getD_eq_getElem?_getD, List.getElem?_eq_getElem h]; rfl

set_option maxHeartbeats 1600000 in
theorem reach_any (h : Sh) (F : Nat → Prop) (at_ : Int) (tot : Nat) (z : Qs) (todo : List Sd) (D : List Int) (loc key : Int) (w : World) (S : SwA w h F at_ tot z todo D)
    (l0 : 0 ≤ loc) (l1 : loc < h.C.length) (l2 : h.C.length = D.length) (a0 : 0 ≤ at_) (a1 : at_ ≤ 549755813888) (k0 : at_ ≤ key) (k1 : key - at_ < 256)
    (z0 : 0 ≤ z.len) (z1 : z.len < 549755813888) (t1 : tot < 549755813888) :
    Calls Try.prog 87 #[.pointer (some ⟨h.s, 0, none⟩), .int .i64 loc, .int .i64 key] w fun e w' => e = .returned (.tuple #[]) ∧ SwPost w h F at_ (tot + 1) (reachM h.C D loc key z) todo D w' := by
  obtain ⟨A, cp, S⟩ := S
  have c2 : w.cell? ⟨h.s, 2, none⟩ = some (.slice (some ⟨h.tb, h.tof, none⟩) h.C.length h.tcap) := by rw [S.row.cell]; rfl
  have c3 : w.cell? ⟨h.s, 3, none⟩ = some (.pointer (some ⟨h.r, 0, none⟩)) := by rw [S.row.cell]; rfl
  have c5 : w.cell? ⟨h.s, 5, none⟩ = some (.slice (some ⟨h.d, 0, none⟩) D.length h.dcap) := by rw [S.row.cell]; rfl
  have cb : w.cell? ⟨h.tb, h.tof + loc.toNat, none⟩ = some (.int .u8 (h.C.getD loc.toNat 0)) := S.bytes _ _ (getD_some 0 (by omega))
  have cd : w.cell? ⟨h.d, loc.toNat, none⟩ = some (.int .i64 (D.getD loc.toNat 0)) := S.dist.cells rfl _ _ (by rw [List.getElem?_map, getD_some 0 (show loc.toNat < D.length by omega)]; rfl)
  have e1 : loc < (D.length : Int) := by omega
  have HR : Hid (∀ hp : h.C.getD loc.toNat 0 ≠ 255 ∧ D.getD loc.toNat 0 = inf, ∀ w', PutPost w h.r F at_ z.len tot z.q (key % 256).toNat loc w' → SwPost w h F at_ (tot + 1) (reachM h.C D loc key z) todo D w') := by
    rintro hp w' ⟨F', hr, hF, hf⟩
    refine ⟨F', ⟨A, cp, S.ring' hf ?_ hF⟩, hF, hf⟩
    unfold reachM; rw [if_pos hp]; exact hr
  have HN : Hid (¬ (h.C.getD loc.toNat 0 ≠ 255 ∧ D.getD loc.toNat 0 = inf) → SwPost w h F at_ (tot + 1) (reachM h.C D loc key z) todo D w) := by
    intro hp
    refine ⟨F, ?_, fun _ h => .inl h, Fr.refl _ _⟩
    unfold reachM; rw [if_neg hp]
    exact SwA.mono ⟨A, cp, S⟩ (by omega)
  have HP := Lib.hid (rput_yes h.r F at_ z.len tot z.q key loc w S.ring a0 (by omega) k0 k1 z0 (by omega) (by omega))
  clear S
  generalize hb : h.C.getD loc.toNat 0 = b at cb HR HN
  generalize hd : D.getD loc.toNat 0 = dd at cd HR HN
  clear hb hd
  generalize hC : h.C.length = n at c2 l1 l2
  clear hC
  by_cases h1 : b = 255
  · subst h1
    have HN' := Lib.hid (HN.out (fun hp => hp.1 rfl))
    clear HN HR HP
    go_enter Try.func87, Try.ntmps87
    go_wp2
    go_end0
    exact ⟨rfl, HN'.out⟩
  · have t1 : (b != 255) = true := by simpa using h1
    by_cases h2 : dd = inf
    · subst h2
      have HR' := Lib.hid (HR.out ⟨h1, rfl⟩)
      clear HN HR
      unfold inf at cd
      clear h1
      go_enter Try.func87, Try.ntmps87
      go_wp2_with (go_at_call 84; refine (HP.out).mono ?_; rintro e w' ⟨rfl, hp⟩)
      go_end0
      exact ⟨rfl, HR'.out _ hp⟩
    · have HN' := Lib.hid (HN.out (fun hp => h2 hp.2))
      have t2 : (dd == 1099511627776) = false := by simpa [inf] using h2
      clear HN HR HP h2 h1
      go_enter Try.func87, Try.ntmps87
      go_wp2
      go_end0
      exact ⟨rfl, HN'.out⟩
end Swp
end Go.Proofs.Ytjnjppikhdfomaa

namespace Go.Proofs.Ytjnjppikhdfomaa
open Go Go.RowKit Go.Proofs B Rng
namespace Swp

theorem reachM_len (C D : List Int) (loc key : Int) (z : Qs) : z.len ≤ (reachM C D loc key z).len ∧ (reachM C D loc key z).len ≤ z.len + 1 := by
  unfold reachM; split <;> constructor <;> first | exact Int.le_refl _ | (show _ ≤ _ + 1; omega)

def SwN (w0 : World) (h : Sh) (F : Nat → Prop) (at_ : Int) (tot : Nat) (z0 : Qs) (n : Nat) (z : Qs) (todo : List Sd) (D : List Int) (w : World) : Prop :=
  SwPost w0 h F at_ (tot + n) z todo D w ∧ z0.len ≤ z.len ∧ z.len ≤ z0.len + n

theorem reach_from (w0 : World) (h : Sh) (F : Nat → Prop) (at_ : Int) (tot : Nat) (z0 : Qs) (n : Nat) (z : Qs) (todo : List Sd) (D : List Int) (loc key : Int) (w : World) (S : SwN w0 h F at_ tot z0 n z todo D w)
    (l0 : 0 ≤ loc) (l1 : loc < h.C.length) (l2 : h.C.length = D.length) (a0 : 0 ≤ at_) (a1 : at_ ≤ 549755813888) (k0 : at_ ≤ key) (k1 : key - at_ < 256)
    (z00 : 0 ≤ z0.len) (z1 : z0.len < 549755813000) (t1 : tot < 549755813000) (hn : n ≤ 100) :
    Calls Try.prog 87 #[.pointer (some ⟨h.s, 0, none⟩), .int .i64 loc, .int .i64 key] w fun e w' => e = .returned (.tuple #[]) ∧ SwN w0 h F at_ tot z0 (n + 1) (reachM h.C D loc key z) todo D w' := by
  obtain ⟨⟨F1, S1, hF, hf⟩, hz0, hz1⟩ := S
  refine (reach_any h F1 at_ (tot + n) z todo D loc key w S1 l0 l1 l2 a0 a1 k0 k1 (by omega) (by omega) (by omega)).mono ?_
  rintro e w' ⟨rfl, F2, S2, hF2, hf2⟩
  have hl := reachM_len h.C D loc key z
  refine ⟨rfl, ⟨F2, S2, ?_, hf.trans hf2 ?_⟩, by omega, by omega⟩
  · intro k hk
    rcases hF2 k hk with h2 | h2
    · exact hF k h2
    · exact .inr (Nat.le_trans hf.size h2)
  · intro k hk h2
    rcases hF k h2 with h3 | h3
    · exact h3
    · omega

theorem SwPost.refl {w : World} {h : Sh} {F : Nat → Prop} {at_ : Int} {tot : Nat} {z : Qs} {todo : List Sd} {D : List Int} (S : SwA w h F at_ tot z todo D) (n : Nat) : SwPost w h F at_ tot z todo D (w.drewN n) :=
  ⟨F, S.drewN n, fun _ h => .inl h, (Fr.refl F w).drewN n⟩

theorem SwPost.drewN {w0 w : World} {h : Sh} {F : Nat → Prop} {at_ : Int} {tot : Nat} {z : Qs} {todo : List Sd} {D : List Int} (S : SwPost w0 h F at_ tot z todo D w) (n : Nat) : SwPost w0 h F at_ tot z todo D (w.drewN n) := by
  obtain ⟨F1, S1, hF, hf⟩ := S
  exact ⟨F1, S1.drewN n, hF, hf.drewN n⟩

theorem SwPost.cells {w0 w : World} {h : Sh} {F : Nat → Prop} {at_ : Int} {tot : Nat} {z : Qs} {todo : List Sd} {D : List Int} (S : SwPost w0 h F at_ tot z todo D w) :
    w.cell? ⟨h.s, 0, none⟩ = some (.int .i64 h.W) ∧ w.cell? ⟨h.s, 1, none⟩ = some (.int .i64 h.H) := by
  obtain ⟨F1, ⟨A, cp, S1⟩, _, _⟩ := S
  exact ⟨by rw [S1.row.cell]; rfl, by rw [S1.row.cell]; rfl⟩

theorem SwN.cells {w0 w : World} {h : Sh} {F : Nat → Prop} {at_ : Int} {tot : Nat} {z0 : Qs} {n : Nat} {z : Qs} {todo : List Sd} {D : List Int} (S : SwN w0 h F at_ tot z0 n z todo D w) :
    w.cell? ⟨h.s, 0, none⟩ = some (.int .i64 h.W) ∧ w.cell? ⟨h.s, 1, none⟩ = some (.int .i64 h.H) := S.1.cells
theorem SwN.done {w0 w : World} {h : Sh} {F : Nat → Prop} {at_ : Int} {tot : Nat} {z0 : Qs} {n m : Nat} {z : Qs} {todo : List Sd} {D : List Int} (S : SwN w0 h F at_ tot z0 n z todo D w) (hn : n ≤ m) : SwPost w0 h F at_ (tot + m) z todo D w := by
  obtain ⟨⟨F1, S1, hF, hf⟩, hz0, hz1⟩ := S
  exact ⟨F1, S1.mono (by omega), hF, hf⟩

/-- The locals beside one are told. -/
def aroundM (W H : Int) (C D : List Int) (loc key : Int) (z : Qs) : Qs :=
  let z1 := if 0 < loc / W then reachM C D (loc - W) key z else z
  let z2 := if loc % W < W - 1 then reachM C D (loc + 1) key z1 else z1
  let z3 := if loc / W < H - 1 then reachM C D (loc + W) key z2 else z2
  if 0 < loc % W then reachM C D (loc - 1) key z3 else z3

theorem beside (W H loc n : Int) (hW : 0 < W) (h0 : 0 ≤ loc) (hn : n = W * H) (h1 : loc < n) :
    (0 < loc / W → 0 ≤ loc - W) ∧ (loc % W < W - 1 → loc + 1 < n) ∧ (loc / W < H - 1 → loc + W < n) ∧ (0 < loc % W → 0 ≤ loc - 1) := by
  have e := Int.mul_ediv_add_emod loc W
  have m0 := Int.emod_nonneg loc (show W ≠ 0 by omega)
  have m1 := Int.emod_lt_of_pos loc hW
  have d0 : 0 ≤ loc / W := Int.ediv_nonneg h0 (by omega)
  generalize loc / W = y at *
  generalize loc % W = x at *
  subst hn
  refine ⟨fun h => ?_, fun h => ?_, fun h => ?_, fun h => ?_⟩
  · have : W * 1 ≤ W * y := Int.mul_le_mul_of_nonneg_left (by omega) (by omega)
    omega
  · have hy : y < H := by
      by_cases c : y < H
      · exact c
      · have : W * H ≤ W * y := Int.mul_le_mul_of_nonneg_left (by omega) (by omega)
        omega
    have : W * (y + 1) ≤ W * H := Int.mul_le_mul_of_nonneg_left (by omega) (by omega)
    rw [Int.mul_add] at this
    omega
  · have : W * (y + 1 + 1) ≤ W * H := Int.mul_le_mul_of_nonneg_left (by omega) (by omega)
    rw [Int.mul_add, Int.mul_add] at this
    omega
  · by_cases c : loc = 0
    · subst c
      have : W * y ≥ 0 := Int.mul_nonneg (by omega) d0
      omega
    · omega

set_option maxHeartbeats 4000000 in
theorem around_any (h : Sh) (F : Nat → Prop) (at_ : Int) (tot : Nat) (z : Qs) (todo : List Sd) (D : List Int) (loc : Int) (w : World) (S : SwA w h F at_ tot z todo D)
    (w0 : 0 < h.W) (w1 : h.W ≤ 16) (h0 : 0 < h.H) (h1 : h.H ≤ 16) (hn : (h.C.length : Int) = h.W * h.H) (hl9 : (h.C.length : Int) ≤ 256)
    (l0 : 0 ≤ loc) (l1 : loc < h.C.length) (l2 : h.C.length = D.length) (a0 : 0 ≤ at_) (a1 : at_ ≤ 549755813888) (hd : D.getD loc.toNat 0 = at_) (hb0 : 0 ≤ h.C.getD loc.toNat 0) (hb1 : h.C.getD loc.toNat 0 < 256)
    (z0 : 0 ≤ z.len) (z1 : z.len < 549755813000) (t1 : tot < 549755813000) :
    Calls Try.prog 62 #[.pointer (some ⟨h.s, 0, none⟩), .int .i64 loc] w fun e w' => e = .returned (.tuple #[]) ∧ SwPost w h F at_ (tot + 4) (aroundM h.W h.H h.C D loc (at_ + h.C.getD loc.toNat 0) z) todo D w' := by
  have HS := Lib.hid S
  obtain ⟨A, cp, S⟩ := S
  have c0 : w.cell? ⟨h.s, 0, none⟩ = some (.int .i64 h.W) := by rw [S.row.cell]; rfl
  have c2 : w.cell? ⟨h.s, 2, none⟩ = some (.slice (some ⟨h.tb, h.tof, none⟩) h.C.length h.tcap) := by rw [S.row.cell]; rfl
  have c5 : w.cell? ⟨h.s, 5, none⟩ = some (.slice (some ⟨h.d, 0, none⟩) D.length h.dcap) := by rw [S.row.cell]; rfl
  have cb : w.cell? ⟨h.tb, h.tof + loc.toNat, none⟩ = some (.int .u8 (h.C.getD loc.toNat 0)) := S.bytes _ _ (getD_some 0 (by omega))
  have cd : w.cell? ⟨h.d, loc.toNat, none⟩ = some (.int .i64 at_) := S.dist.cells rfl _ _ (by rw [List.getElem?_map, getD_some 0 (show loc.toNat < D.length by omega), hd]; rfl)
  have e1 : loc < (D.length : Int) := by omega
  clear S
  obtain ⟨b1, b2, b3, b4⟩ := beside h.W h.H loc h.C.length w0 l0 hn l1
  have HB := Lib.hid (And.intro b1 (And.intro b2 (And.intro b3 b4)))
  have L2 := Lib.hid l2
  clear b1 b2 b3 b4 hd hn l2
  generalize hcc : h.C.getD loc.toNat 0 = cc at *
  clear hcc
  have hdv : wrap64 (loc.tdiv h.W) = loc / h.W := by
    rw [Int.tdiv_eq_ediv_of_nonneg l0]
    have := Int.ediv_le_self h.W l0
    have := Int.ediv_nonneg l0 (show 0 ≤ h.W by omega)
    unfold wrap64; omega
  have hd0 : 0 ≤ loc / h.W := Int.ediv_nonneg l0 (by omega)
  have hd1 : loc / h.W ≤ loc := Int.ediv_le_self h.W l0
  have hm0 : 0 ≤ loc % h.W := Int.emod_nonneg loc (by omega)
  have hm1 : loc % h.W < h.W := Int.emod_lt_of_pos loc (by omega)
  go_enter Try.func62, Try.ntmps62
  go_wp2
  go_quiet (fail)
  have hP := SwPost.refl HS.out nq
  generalize w.drewN nq = wq at hP ⊢
  obtain ⟨d0, _⟩ := hP.cells
  clear c0 c2 c5 cb cd
  go_wp2
  go_quiet (fail)
  have hQ : SwN w h F at_ tot z 0 z todo D (wq.drewN nq) := ⟨hP.drewN nq, Int.le_refl _, by omega⟩
  clear d0 hP
  generalize wq.drewN nq = wr at hQ ⊢
  obtain ⟨d0, d1⟩ := hQ.cells
  clear hdv
  have key0 : at_ ≤ at_ + cc := by omega
  have key1 : at_ + cc - at_ < 256 := by omega
  generalize hkey : at_ + cc = key at *
  have HK := Lib.hid hkey
  clear hkey
  generalize hy : loc / h.W = y at *
  generalize hx : loc % h.W = x at *
  by_cases c1 : 0 < y <;> by_cases c2 : x < h.W - 1 <;> by_cases c3 : y < h.H - 1 <;> by_cases c4 : 0 < x
  all_goals
    go_wp2_with (go_at_call 87; refine (reach_from w h F at_ tot z _ _ todo D _ key _ (by assumption) (by have := HB.out; omega) (by have := HB.out; omega) L2.out a0 a1 key0 key1 z0 z1 t1 (by omega)).mono ?_; rintro e w' ⟨rfl, hp⟩; obtain ⟨d0, d1⟩ := hp.cells)
  all_goals
    go_end0
    refine ⟨rfl, ?_⟩
    unfold aroundM
    simp only [hy, hx, HK.out]
    first | rw [if_pos c4] | rw [if_neg (Int.not_lt.2 c4)]
    first | rw [if_pos c3] | rw [if_neg (Int.not_lt.2 c3)]
    first | rw [if_pos c2] | rw [if_neg (Int.not_lt.2 c2)]
    first | rw [if_pos c1] | rw [if_neg (Int.not_lt.2 c1)]
    exact SwN.done (by assumption) (by omega)
end Swp
end Go.Proofs.Ytjnjppikhdfomaa

namespace Go.Proofs.Ytjnjppikhdfomaa
open Go Go.RowKit Go.Proofs B Rng
namespace Swp

/-- Seeds that go into the ring, one behind the other, till one is too far. -/
def fillL (at_ : Int) : List Sd → Qs → Qs × List Sd
  | [], z => (z, [])
  | s :: l, z => if s.key - at_ < 256 then fillL at_ l ⟨z.len + 1, upd z.q (s.key % 256).toNat (z.q (s.key % 256).toNat ++ [s.cell])⟩ else (z, s :: l)

def fillAt (at_ : Int) (z : Qs) : List Sd → Int
  | [] => at_
  | s :: _ => if z.len = 0 then s.key else at_

theorem Sw.put {w w' : World} {h : Sh} {F F' : Nat → Prop} {at_ at' : Int} {tot tot' : Nat} {z z' : Qs} {s : Sd} {todo : List Sd} {D : List Int} {A : Option Addr} {cp : Nat} (S : Sw w h F at_ tot z (s :: todo) D A cp) :
    ∃ o, A = some ⟨h.qb, o, none⟩ ∧ w.cell? ⟨h.qb, o, none⟩ = some (.int .i64 s.cell) ∧ w.cell? ⟨h.qb, o + 2, none⟩ = some (.int .i64 s.key) := by
  obtain ⟨o, ha, hc⟩ := S.todo s todo rfl
  obtain ⟨h1, _, h3⟩ := hc 0 s rfl
  exact ⟨o, ha, by simpa using h1, by simpa using h3⟩

theorem Sw.cells {w : World} {h : Sh} {F : Nat → Prop} {at_ : Int} {tot : Nat} {z : Qs} {todo : List Sd} {D : List Int} {A : Option Addr} {cp : Nat} (S : Sw w h F at_ tot z todo D A cp) :
    w.cell? ⟨h.s, 3, none⟩ = some (.pointer (some ⟨h.r, 0, none⟩)) ∧ w.cell? ⟨h.s, 4, none⟩ = some (.slice A todo.length cp) ∧ w.cell? ⟨h.s, 5, none⟩ = some (.slice (some ⟨h.d, 0, none⟩) D.length h.dcap) ∧ w.frozen? ⟨h.s, 4, none⟩ = false :=
  ⟨by rw [S.row.cell]; rfl, by rw [S.row.cell]; rfl, by rw [S.row.cell]; rfl, S.row.free _⟩

/-- A cut of the first seed that waits. -/
theorem Sw.cut {w w' : World} {h : Sh} {F : Nat → Prop} {at_ : Int} {tot : Nat} {z : Qs} {s : Sd} {todo : List Sd} {D : List Int} {o cp : Nat} (S : Sw w h F at_ tot z (s :: todo) D (some ⟨h.qb, o, none⟩) cp) :
    Sw (w.setCell ⟨h.s, 4, none⟩ (.slice (if cp = 1 then some ⟨h.qb, o, none⟩ else some ⟨h.qb, o + 3, none⟩) todo.length (cp - 1))) h F at_ tot z todo D (if cp = 1 then some ⟨h.qb, o, none⟩ else some ⟨h.qb, o + 3, none⟩) (cp - 1) ∧
      Fr (fun k => k = h.s) w (w.setCell ⟨h.s, 4, none⟩ (.slice (if cp = 1 then some ⟨h.qb, o, none⟩ else some ⟨h.qb, o + 3, none⟩) todo.length (cp - 1))) := by
  generalize hv : Value.slice (if cp = 1 then some ⟨h.qb, o, none⟩ else some ⟨h.qb, o + 3, none⟩) todo.length (cp - 1) = v
  have hs : Fr (fun k => k = h.s) w (w.setCell ⟨h.s, 4, none⟩ v) := (Fr.refl (fun k => k = h.s) w).setCell (p := ⟨h.s, 4, none⟩) (fun _ => rfl) _
  have hcp := S.cp
  simp only [List.length_cons] at hcp
  refine ⟨{ S with row := ?_, cp := by omega, todo := ?_, bytes := ?_, dist := S.dist.fr hs (fun k hk => by rw [ownBlock_some] at hk; injection hk with hk; subst hk; exact fun e => S.sd e.symm), ring := S.ring.other hs (fun k hk e => S.ns (e ▸ hk)), tlt := Nat.lt_of_lt_of_le S.tlt hs.size, qlt := Nat.lt_of_lt_of_le S.qlt hs.size }, hs⟩
  · have := S.row.set 4 v
    rw [hv]; exact this
  · intro sd l hl
    have hcp1 : ¬ cp = 1 := by
      rintro rfl
      rw [hl] at hcp; simp at hcp
    obtain ⟨o', ha, hc⟩ := S.todo s todo rfl
    injection ha with ha; injection ha with _ ha; subst ha
    refine ⟨o + 3, by rw [if_neg hcp1], fun j x hx => ?_⟩
    obtain ⟨h1, h2, h3⟩ := hc (j + 1) x hx
    have e : o + 3 + j * 3 = o + (j + 1) * 3 := by omega
    rw [e]
    exact ⟨(hs.cell (p := ⟨h.qb, _, none⟩) S.qlt S.qs).trans h1, (hs.cell (p := ⟨h.qb, _, none⟩) S.qlt S.qs).trans h2, (hs.cell (p := ⟨h.qb, _, none⟩) S.qlt S.qs).trans h3⟩
  · intro j b hb
    exact (hs.cell (p := ⟨h.tb, _, none⟩) S.tlt S.ts).trans (S.bytes j b hb)

/-- What a call on the ring leaves of the sweeper. -/
def SwQ (w : World) (h : Sh) (F : Nat → Prop) (at_ : Int) (tot : Nat) (z : Qs) (todo : List Sd) (D : List Int) (A : Option Addr) (cp : Nat) (w' : World) : Prop :=
  ∃ F', Sw w' h F' at_ tot z todo D A cp ∧ (∀ k, F' k → F k ∨ w.heap.size ≤ k) ∧ Fr F w w'

theorem put_sw (h : Sh) (F : Nat → Prop) (at_ : Int) (tot : Nat) (z : Qs) (todo : List Sd) (D : List Int) (A : Option Addr) (cp : Nat) (key item : Int) (w : World) (S : Sw w h F at_ tot z todo D A cp)
    (b0 : 0 ≤ at_) (b1 : at_ ≤ 1099511627776) (k0 : at_ ≤ key) (k1 : key - at_ < 256) (l0 : 0 ≤ z.len) (l1 : z.len < 1099511627776) (t1 : tot < 1099511627776) :
    Calls Try.prog 84 #[.pointer (some ⟨h.r, 0, none⟩), .int .i64 key, .int .i64 item] w fun e w' => e = .returned (.bool true) ∧ SwQ w h F at_ (tot + 1) ⟨z.len + 1, upd z.q (key % 256).toNat (z.q (key % 256).toNat ++ [item])⟩ todo D A cp w' := by
  refine (rput_yes h.r F at_ z.len tot z.q key item w S.ring b0 b1 k0 k1 l0 l1 t1).mono ?_
  rintro e w' ⟨rfl, F', hr, hF, hf⟩
  exact ⟨rfl, F', S.ring' hf hr hF, hF, hf⟩

theorem jump_sw (h : Sh) (F : Nat → Prop) (at_ : Int) (tot : Nat) (z : Qs) (todo : List Sd) (D : List Int) (A : Option Addr) (cp : Nat) (key : Int) (w : World) (S : Sw w h F at_ tot z todo D A cp)
    (k0 : at_ ≤ key) (k1 : key ≤ 1099511627776) (hz : z.len = 0) :
    Calls Try.prog 83 #[.pointer (some ⟨h.r, 0, none⟩), .int .i64 key] w fun e w' => e = .returned (.bool true) ∧ SwQ w h F key tot z todo D A cp w' := by
  have hr := S.ring
  rw [hz] at hr
  refine (rjump h.r F at_ tot z.q key w hr k0 k1).mono ?_
  rintro e w' ⟨rfl, hr, hf⟩
  rw [← hz] at hr
  exact ⟨rfl, F, S.ring' hf hr (fun _ h => .inl h), fun _ h => .inl h, hf⟩

/-- A step behind another one. -/
theorem SwQ.from {w w1 w2 : World} {h : Sh} {F F1 : Nat → Prop} {at_ : Int} {tot : Nat} {z : Qs} {todo : List Sd} {D : List Int} {A : Option Addr} {cp : Nat} (hF : ∀ k, F1 k → F k ∨ w.heap.size ≤ k) (hf : Fr F w w1)
    (S : SwQ w1 h F1 at_ tot z todo D A cp w2) : SwQ w h F at_ tot z todo D A cp w2 := by
  obtain ⟨F2, S2, hF2, hf2⟩ := S
  refine ⟨F2, S2, ?_, hf.trans hf2 ?_⟩
  · intro k hk
    rcases hF2 k hk with h2 | h2
    · exact hF k h2
    · exact .inr (Nat.le_trans hf.size h2)
  · intro k hk h2
    rcases hF k h2 with h3 | h3
    · exact h3
    · omega
end Swp
end Go.Proofs.Ytjnjppikhdfomaa

namespace Go.Proofs.Ytjnjppikhdfomaa
open Go Go.RowKit Go.Proofs B Rng
namespace Swp

def FillRel (w0 : World) (h : Sh) (F : Nat → Prop) (at_ : Int) (tot : Nat) (zT : Qs × List Sd) (N : Nat) (M : Int) (D : List Int) (k : Nat) (wr : World) : Prop :=
  ∃ t z todo A cp, SwQ w0 h F at_ (tot + t) z todo D A cp wr ∧ k = todo.length ∧ t + k = N ∧ fillL at_ todo z = zT ∧ (∀ s ∈ todo, at_ ≤ s.key ∧ s.key ≤ 1073741824) ∧ 0 ≤ z.len ∧ z.len + k ≤ M

theorem FillRel.end_ {w0 : World} {h : Sh} {F : Nat → Prop} {at_ : Int} {tot : Nat} {zT : Qs × List Sd} {N : Nat} {D : List Int} {t : Nat} {z : Qs} {todo : List Sd} {A : Option Addr} {cp : Nat} {wr : World}
    (S : SwQ w0 h F at_ (tot + t) z todo D A cp wr) (ht : t ≤ N) (hz : (z, todo) = zT) (n : Nat) : SwPost w0 h F at_ (tot + N) zT.1 zT.2 D (wr.drewN n) := by
  subst hz
  obtain ⟨F1, S1, hF, hf⟩ := S
  exact ⟨F1, SwA.mono (SwA.drewN ⟨A, cp, S1⟩ n) (by omega), hF, hf.drewN n⟩

theorem FillRel.next {w0 : World} {h : Sh} {G : Nat → Prop} {at_ : Int} {tot : Nat} {zT : Qs × List Sd} {N : Nat} {M : Int} {D : List Int} {t : Nat} {z : Qs} {s : Sd} {l : List Sd} {o cp : Nat} {w1 : World}
    (S : SwQ w0 h G at_ (tot + t + 1) ⟨z.len + 1, upd z.q (s.key % 256).toNat (z.q (s.key % 256).toNat ++ [s.cell])⟩ (s :: l) D (some ⟨h.qb, o, none⟩) cp w1) (ht : t + (s :: l).length = N) (hz : fillL at_ (s :: l) z = zT)
    (hk : ∀ x ∈ s :: l, at_ ≤ x.key ∧ x.key ≤ 1073741824) (z0 : 0 ≤ z.len) (zM : z.len + (s :: l).length ≤ M) (hn : s.key - at_ < 256) (hG : G h.s) :
    FillRel w0 h G at_ tot zT N M D l.length (w1.setCell ⟨h.s, 4, none⟩ (.slice (if cp = 1 then some ⟨h.qb, o, none⟩ else some ⟨h.qb, o + 3, none⟩) l.length (cp - 1))) := by
  obtain ⟨F1, S1, hF, hf⟩ := S
  obtain ⟨S2, hf2⟩ := S1.cut (w' := w1)
  simp only [List.length_cons] at ht zM
  refine ⟨t + 1, _, l, _, _, ⟨F1, S2, hF, hf.trans hf2 (fun k _ h => h ▸ hG)⟩, rfl, by omega, ?_, fun x hx => hk x (List.mem_cons_of_mem _ hx), ?_, ?_⟩
  · rw [← hz]; simp only [fillL]; rw [if_pos hn]
  · show 0 ≤ z.len + 1; omega
  · show z.len + 1 + (l.length : Int) ≤ M; omega

theorem SwQ.drewN {w0 w : World} {h : Sh} {F : Nat → Prop} {at_ : Int} {tot : Nat} {z : Qs} {todo : List Sd} {D : List Int} {A : Option Addr} {cp : Nat} (S : SwQ w0 h F at_ tot z todo D A cp w) (n : Nat) : SwQ w0 h F at_ tot z todo D A cp (w.drewN n) := by
  obtain ⟨F1, S1, hF, hf⟩ := S
  exact ⟨F1, S1.ring' ((Fr.refl F1 w).drewN n) (S1.ring.drewN n) (fun _ h => .inl h), hF, hf.drewN n⟩

theorem put_q {w0 w : World} {h : Sh} {G : Nat → Prop} {at_ : Int} {tot : Nat} {z : Qs} {s : Sd} {todo : List Sd} {D : List Int} {A : Option Addr} {cp : Nat} (S : SwQ w0 h G at_ tot z (s :: todo) D A cp w)
    (b0 : 0 ≤ at_) (b1 : at_ ≤ 1099511627776) (k0 : at_ ≤ s.key) (k1 : s.key - at_ < 256) (l0 : 0 ≤ z.len) (l1 : z.len < 1099511627776) (t1 : tot < 1099511627776) :
    Calls Try.prog 84 #[.pointer (some ⟨h.r, 0, none⟩), .int .i64 s.key, .int .i64 s.cell] w fun e w' => e = .returned (.bool true) ∧ SwQ w0 h G at_ (tot + 1) ⟨z.len + 1, upd z.q (s.key % 256).toNat (z.q (s.key % 256).toNat ++ [s.cell])⟩ (s :: todo) D A cp w' := by
  obtain ⟨F1, S1, hF, hf⟩ := S
  refine (put_sw h F1 at_ tot z (s :: todo) D A cp s.key s.cell w S1 b0 b1 k0 k1 l0 l1 t1).mono ?_
  rintro e w' ⟨rfl, hq⟩
  exact ⟨rfl, hq.from hF hf⟩

theorem put_far {w0 w : World} {h : Sh} {G : Nat → Prop} {at_ : Int} {tot : Nat} {z : Qs} {s : Sd} {todo : List Sd} {D : List Int} {A : Option Addr} {cp : Nat} (S : SwQ w0 h G at_ tot z (s :: todo) D A cp w)
    (b0 : 0 ≤ at_) (b1 : at_ ≤ 1099511627776) (k0 : at_ ≤ s.key) (k1 : 256 ≤ s.key - at_) (k2 : s.key ≤ 1099511627776) :
    Calls Try.prog 84 #[.pointer (some ⟨h.r, 0, none⟩), .int .i64 s.key, .int .i64 s.cell] w fun e w' => e = .returned (.bool false) ∧ w = w' := by
  obtain ⟨F1, S1, hF, hf⟩ := S
  exact rput_no h.r F1 at_ z.len tot z.q s.key s.cell w S1.ring b0 b1 k0 k1 k2

theorem SwQ.cells {w0 w : World} {h : Sh} {G : Nat → Prop} {at_ : Int} {tot : Nat} {z : Qs} {todo : List Sd} {D : List Int} {A : Option Addr} {cp : Nat} (S : SwQ w0 h G at_ tot z todo D A cp w) :
    w.cell? ⟨h.s, 3, none⟩ = some (.pointer (some ⟨h.r, 0, none⟩)) ∧ w.cell? ⟨h.s, 4, none⟩ = some (.slice A todo.length cp) ∧ w.frozen? ⟨h.s, 4, none⟩ = false ∧ todo.length ≤ cp := by
  obtain ⟨F1, S1, hF, hf⟩ := S
  obtain ⟨a, b, _, d⟩ := S1.cells
  exact ⟨a, b, d, S1.cp⟩
theorem SwQ.put {w0 w : World} {h : Sh} {G : Nat → Prop} {at_ : Int} {tot : Nat} {z : Qs} {s : Sd} {todo : List Sd} {D : List Int} {A : Option Addr} {cp : Nat} (S : SwQ w0 h G at_ tot z (s :: todo) D A cp w) :
    ∃ o, A = some ⟨h.qb, o, none⟩ ∧ w.cell? ⟨h.qb, o, none⟩ = some (.int .i64 s.cell) ∧ w.cell? ⟨h.qb, o + 2, none⟩ = some (.int .i64 s.key) := by
  obtain ⟨F1, S1, hF, hf⟩ := S
  exact S1.put (w' := w) (F' := F1) (at' := 0) (tot' := 0) (z' := z)

theorem SwQ.four {w0 w : World} {h : Sh} {G : Nat → Prop} {at_ : Int} {tot : Nat} {z : Qs} {s : Sd} {l : List Sd} {D : List Int} {o cp : Nat} (S : SwQ w0 h G at_ tot z (s :: l) D (some ⟨h.qb, o, none⟩) cp w) :
    w.cell? ⟨h.s, 3, none⟩ = some (.pointer (some ⟨h.r, 0, none⟩)) ∧ w.cell? ⟨h.s, 4, none⟩ = some (.slice (some ⟨h.qb, o, none⟩) (l.length + 1) cp) ∧ w.cell? ⟨h.qb, o, none⟩ = some (.int .i64 s.cell) ∧ w.cell? ⟨h.qb, o + 2, none⟩ = some (.int .i64 s.key) := by
  obtain ⟨c3, c4, _, _⟩ := S.cells
  obtain ⟨o', ha, d0, d2⟩ := S.put
  injection ha with ha; injection ha with _ ha; subst ha
  exact ⟨c3, c4, d0, d2⟩

theorem len_q {w0 w : World} {h : Sh} {G : Nat → Prop} {at_ : Int} {tot : Nat} {z : Qs} {todo : List Sd} {D : List Int} {A : Option Addr} {cp : Nat} (S : SwQ w0 h G at_ tot z todo D A cp w) :
    Calls Try.prog 60 #[.pointer (some ⟨h.r, 0, none⟩)] w fun e w' => e = .returned (.int .i64 z.len) ∧ w = w' := by
  obtain ⟨F1, S1, hF, hf⟩ := S
  exact rlen h.r F1 at_ z.len tot z.q w S1.ring

theorem jump_q {w0 w : World} {h : Sh} {G : Nat → Prop} {at_ : Int} {tot : Nat} {z : Qs} {s : Sd} {todo : List Sd} {D : List Int} {A : Option Addr} {cp : Nat} (S : SwQ w0 h G at_ tot z (s :: todo) D A cp w)
    (k0 : at_ ≤ s.key) (k1 : s.key ≤ 1099511627776) (hz : z.len = 0) :
    Calls Try.prog 83 #[.pointer (some ⟨h.r, 0, none⟩), .int .i64 s.key] w fun e w' => e = .returned (.bool true) ∧ SwQ w0 h G s.key tot z (s :: todo) D A cp w' := by
  obtain ⟨F1, S1, hF, hf⟩ := S
  refine (jump_sw h F1 at_ tot z (s :: todo) D A cp s.key w S1 k0 k1 hz).mono ?_
  rintro e w' ⟨rfl, hq⟩
  exact ⟨rfl, hq.from hF hf⟩

set_option maxHeartbeats 16000000 in
/-- What fill does. -/
theorem fill_any (h : Sh) (G : Nat → Prop) (at_ : Int) (tot : Nat) (z : Qs) (todo : List Sd) (D : List Int) (w0 w : World) (hG : G h.s) (a0 : 0 ≤ at_) (a1 : at_ ≤ 549755813888)
    (hS : SwPost w0 h G at_ tot z todo D w) (hk : ∀ s ∈ todo, at_ ≤ s.key ∧ s.key ≤ 1073741824) (hs : ∀ s l, todo = s :: l → ∀ x ∈ todo, s.key ≤ x.key)
    (z0 : 0 ≤ z.len) (zM : z.len + todo.length ≤ 549755813000) (ht : tot ≤ 549755813000) :
    Calls Try.prog 59 #[.pointer (some ⟨h.s, 0, none⟩)] w fun e w' => e = .returned (.tuple #[]) ∧
      SwPost w0 h G (fillAt at_ z todo) (tot + todo.length) (fillL (fillAt at_ z todo) todo z).1 (fillL (fillAt at_ z todo) todo z).2 D w' := by
  obtain ⟨F1, ⟨A, cp, S1⟩, hF, hf⟩ := hS
  have hQ : SwQ w0 h G at_ tot z todo D A cp w := ⟨F1, S1, hF, hf⟩
  clear S1 hF hf
  generalize hzT : fillL (fillAt at_ z todo) todo z = zT
  generalize hat : fillAt at_ z todo = at' at hzT ⊢
  generalize hN : todo.length = N at zM ⊢
  obtain ⟨M, hM0⟩ : ∃ M : Int, M = 549755813000 := ⟨_, rfl⟩
  have hM : M ≤ 549755813000 := by omega
  have hN' : (N : Int) ≤ 549755813000 := by omega
  obtain ⟨c3, c4, f4, hcp⟩ := hQ.cells
  cases todo
  case' nil =>
    have hat' : 0 ≤ at' ∧ at' ≤ 549755813888 := by subst hat; exact ⟨a0, a1⟩
    obtain ⟨b0, b1⟩ := hat'
    have HR : Hid (FillRel w0 h G at' tot zT N M D N w) := ⟨0, z, [], A, cp, by subst hat; exact hQ, hN.symm, by omega, hzT, fun s hs => by simp at hs, z0, by omega⟩
    clear hQ hzT hat hN hM0 hk hs hcp
    simp only [List.length_nil] at c4
    go_enter Try.func59, Try.ntmps59
    go_wp2
    clear c3 c4 f4
  case' cons s0 l0 =>
    obtain ⟨o, rfl, d0, d2⟩ := hQ.put
    obtain ⟨k0, k1⟩ := hk s0 (by simp)
    have HL := Lib.hid (len_q hQ)
    have HJ := Lib.hid (fun hz n => jump_q (hQ.drewN n) k0 (by omega) hz)
    have HS := Lib.hid (hQ.drewN 1).four
    have HQ := Lib.hid hQ
    simp only [List.length_cons] at c4
    have g1 : decide ((0 : Int) < ((l0.length + 1 : Nat) : Int)) = true := by simp
    have g2 : (0 : Int) < ((l0.length + 1 : Nat) : Int) := by omega
    by_cases hz : z.len = 0
    case' pos =>
      have hat' : at' = s0.key := by rw [← hat]; simp [fillAt, hz]
      have HR0 : Hid (∀ wx, SwQ w0 h G s0.key tot z (s0 :: l0) D (some ⟨h.qb, o, none⟩) cp wx → FillRel w0 h G at' tot zT N M D N wx) := fun wx hq =>
        ⟨0, z, s0 :: l0, _, cp, by rw [hat']; exact hq, hN.symm, by omega, hzT, fun x hx => ⟨by rw [hat']; exact hs s0 l0 rfl x hx, (hk x hx).2⟩, z0, by omega⟩
      have hb : 0 ≤ at' ∧ at' ≤ 549755813888 := by rw [hat']; omega
      obtain ⟨b0, b1⟩ := hb
      have HL' : Hid (Calls Try.prog 60 #[.pointer (some ⟨h.r, 0, none⟩)] w fun e w' => e = .returned (.int .i64 0) ∧ w = w') := by have := HL.out; rw [hz] at this; exact this
      have HJ' := Lib.hid (HJ.out hz 1)
      clear hQ hzT hat hN hM0 hk hs hcp HL HJ hat' hz HQ
      go_enter Try.func59, Try.ntmps59
      go_wp2_with (go_at_call 60; refine (HL'.out).mono ?_; rintro e w' ⟨rfl, rfl⟩)
      go_region_held3 (fun w' => w'.cell? ⟨h.s, 3, none⟩ = some (.pointer (some ⟨h.r, 0, none⟩)) ∧ w'.cell? ⟨h.s, 4, none⟩ = some (.slice (some ⟨h.qb, o, none⟩) (l0.length + 1) cp) ∧ w'.cell? ⟨h.qb, o, none⟩ = some (.int .i64 s0.cell) ∧ w'.cell? ⟨h.qb, o + 2, none⟩ = some (.int .i64 s0.key)) (first | exact HS.out | exact (SwQ.four (by assumption))) ((go_at_call 83; refine (HJ'.out).mono ?_; rintro e w' ⟨rfl, p1⟩))
      have HR := Lib.hid (HR0.out _ p1)
      clear HR0 p1 HJ' HL' c3 c4 f4 d0 d2 g1 g2 k0 k1 HS
      go_wp2
    case' neg =>
      have hat' : at' = at_ := by rw [← hat]; simp [fillAt, hz]
      have HR : Hid (FillRel w0 h G at' tot zT N M D N w) :=
        ⟨0, z, s0 :: l0, _, cp, by rw [hat']; exact hQ, hN.symm, by omega, hzT, fun x hx => by rw [hat']; exact hk x hx, z0, by omega⟩
      have hb : 0 ≤ at' ∧ at' ≤ 549755813888 := by rw [hat']; omega
      obtain ⟨b0, b1⟩ := hb
      have g3 : (z.len == 0) = false := by simpa using hz
      clear hQ hzT hat hN hM0 hk hs hcp HJ hat' hz HQ HS
      go_enter Try.func59, Try.ntmps59
      go_wp2_with (go_at_call 60; refine (HL.out).mono ?_; rintro e w' ⟨rfl, rfl⟩)
      clear c3 c4 f4 d0 d2 g1 g2 g3 k0 k1 HL
  all_goals
    go_loopg [] N (fun k wr => FillRel w0 h G at' tot zT N M D k wr)
    case atStart => exact HR.out
    case round =>
      obtain ⟨t, z, todo, A, cp, hQ, hk, htk, hz, hkeys, hz0, hzM⟩ := hrel
      obtain ⟨c3, c4, f4, hcp⟩ := hQ.cells
      cases todo with
      | nil =>
        have HE := Lib.hid (fun n => FillRel.end_ (N := N) hQ (by omega) hz n)
        clear hQ hz hkeys hk hcp
        have g1 : decide ((0 : Int) < ((0 : Nat) : Int)) = false := by decide
        simp only [List.length_nil] at c4
        go_wp2
        go_quiet (fail)
        go_wp2
        go_end0
        exact ⟨rfl, HE.out nq⟩
      | cons s l =>
        obtain ⟨o, rfl, d0, d2⟩ := hQ.put
        obtain ⟨k0, k1⟩ := hkeys s (by simp)
        simp only [List.length_cons] at c4 hcp hk
        have g1 : decide ((0 : Int) < ((l.length + 1 : Nat) : Int)) = true := by simp
        by_cases hn : s.key - at' < 256
        · have HP : Hid (∀ n, Calls Try.prog 84 #[.pointer (some ⟨h.r, 0, none⟩), .int .i64 s.key, .int .i64 s.cell] (wr.drewN n) fun e w' => e = .returned (.bool true) ∧ SwQ w0 h G at' (tot + t + 1) ⟨z.len + 1, upd z.q (s.key % 256).toNat (z.q (s.key % 256).toNat ++ [s.cell])⟩ (s :: l) D (some ⟨h.qb, o, none⟩) cp w') :=
            fun n => put_q (hQ.drewN n) b0 (by omega) k0 hn hz0 (by omega) (by omega)
          have HNN := fun w1 (S : SwQ w0 h G at' (tot + t + 1) ⟨z.len + 1, upd z.q (s.key % 256).toNat (z.q (s.key % 256).toNat ++ [s.cell])⟩ (s :: l) D (some ⟨h.qb, o, none⟩) cp w1) =>
            FillRel.next S (zT := zT) (N := N) (M := M) (by simp only [List.length_cons]; omega) hz hkeys hz0 (by simp only [List.length_cons]; omega) hn hG
          have HS := Lib.hid (hQ.drewN 1).four
          clear hQ hz hkeys
          by_cases hcp1 : cp = 1
          · have HN : Hid (∀ w1, SwQ w0 h G at' (tot + t + 1) ⟨z.len + 1, upd z.q (s.key % 256).toNat (z.q (s.key % 256).toNat ++ [s.cell])⟩ (s :: l) D (some ⟨h.qb, o, none⟩) cp w1 →
                FillRel w0 h G at' tot zT N M D l.length (w1.setCell ⟨h.s, 4, none⟩ (.slice (some ⟨h.qb, o, none⟩) 0 0))) := fun w1 S => by
              have := HNN w1 S; rw [if_pos hcp1, hcp1, show Value.slice (some ⟨h.qb, o, none⟩) l.length (1 - 1) = Value.slice (some ⟨h.qb, o, none⟩) 0 0 by rw [show l.length = 0 by omega]] at this; exact this
            clear HNN
            subst hcp1
            go_wp2
            go_region_held3 (fun w' => w'.cell? ⟨h.s, 3, none⟩ = some (.pointer (some ⟨h.r, 0, none⟩)) ∧ w'.cell? ⟨h.s, 4, none⟩ = some (.slice (some ⟨h.qb, o, none⟩) (l.length + 1) 1) ∧ w'.cell? ⟨h.qb, o, none⟩ = some (.int .i64 s.cell) ∧ w'.cell? ⟨h.qb, o + 2, none⟩ = some (.int .i64 s.key)) (first | exact HS.out | exact (SwQ.four (by assumption))) ((go_at_call 84; refine (HP.out 1).mono ?_; rintro e w' ⟨rfl, p1⟩))
            obtain ⟨q3, q4, q5, _⟩ := p1.cells
            simp only [List.length_cons] at q4
            go_wp2
            go_roundg (gk - 1)
            case measure => omega
            case rel => rw [show gk - 1 = l.length from by omega]; exact HN.out _ p1
          · have HN : Hid (∀ w1, SwQ w0 h G at' (tot + t + 1) ⟨z.len + 1, upd z.q (s.key % 256).toNat (z.q (s.key % 256).toNat ++ [s.cell])⟩ (s :: l) D (some ⟨h.qb, o, none⟩) cp w1 →
                FillRel w0 h G at' tot zT N M D l.length (w1.setCell ⟨h.s, 4, none⟩ (.slice (some ⟨h.qb, o + 3, none⟩) l.length (cp - 1)))) := fun w1 S => by
              have := HNN w1 S; rw [if_neg hcp1] at this; exact this
            clear HNN
            go_wp2
            go_region_held3 (fun w' => w'.cell? ⟨h.s, 3, none⟩ = some (.pointer (some ⟨h.r, 0, none⟩)) ∧ w'.cell? ⟨h.s, 4, none⟩ = some (.slice (some ⟨h.qb, o, none⟩) (l.length + 1) cp) ∧ w'.cell? ⟨h.qb, o, none⟩ = some (.int .i64 s.cell) ∧ w'.cell? ⟨h.qb, o + 2, none⟩ = some (.int .i64 s.key)) (first | exact HS.out | exact (SwQ.four (by assumption))) ((go_at_call 84; refine (HP.out 1).mono ?_; rintro e w' ⟨rfl, p1⟩))
            obtain ⟨q3, q4, q5, _⟩ := p1.cells
            simp only [List.length_cons] at q4
            go_wp2
            go_roundg (gk - 1)
            case measure => omega
            case rel => rw [show gk - 1 = l.length from by omega]; exact HN.out _ p1
        · have HP : Hid (∀ n, Calls Try.prog 84 #[.pointer (some ⟨h.r, 0, none⟩), .int .i64 s.key, .int .i64 s.cell] (wr.drewN n) fun e w' => e = .returned (.bool false) ∧ wr.drewN n = w') :=
            fun n => put_far (hQ.drewN n) b0 (by omega) k0 (by omega) (by omega)
          have HE := Lib.hid (fun n => FillRel.end_ (N := N) hQ (by omega) (show (z, s :: l) = zT by rw [← hz]; simp only [fillL]; rw [if_neg hn]) n)
          clear hQ hz hkeys
          have g2 : (0 : Int) < (l.length : Int) + 1 := by omega
          have g3 : (0 : Int) < ((l.length + 1 : Nat) : Int) := by omega
          go_wp2
          go_quiet ((go_at_call 84; exact Calls.quiet_of_same ((HP.out _).mono fun e w' h => ⟨h.1, h.2.symm⟩)))
          go_wp2
          go_end0
          exact ⟨rfl, HE.out nq⟩
end Swp
end Go.Proofs.Ytjnjppikhdfomaa
