/- SpreadAsks: for every input the law returns true, and each argument reads afterwards as it read before. No condition. -/
import Derived.Test.YtjnjppikhdfomaaM12
import Derived.Test.YtjnjppikhdfomaaRows
import Derived.ProofKit
import Derived.SizedLaws
import Derived.Lib.SmallJoins
import Derived.Deep.Slices
import Derived.Deep.Fields
set_option linter.unusedVariables false
set_option linter.unusedSimpArgs false

namespace Go.Proofs.Ytjnjppikhdfomaa
open Go Go.RowKit Go.Proofs B Rng
namespace Rw
open Go.ChangeShapes Go.WideShapes Go.ChangeAt Go.Deep Go.Joins Swp

section
variable {H : Type} {enc : TypeId × Value → H} {P : Program}

theorem trodAll_same {W W' : World} {sp : Nat → Bool} (hl : laidOutB P = true) : ∀ {ts : List TypeId} {vs : List Value} {ds : List (DataW H)} {ps : List MemPlace},
    (∀ t ∈ ts, P.readableRec t = true ∧ t < P.types.size) → DataW.TrodAll enc P W 0 (fun _ => true) true ts vs ds ps → (∀ x ∈ ps, W.sameAt W' x) → (∀ x ∈ ps, sp x.block = true) → DataW.TrodAll enc P W' 0 sp true ts vs ds ps := by
  intro ts
  induction ts with
  | nil =>
    intro vs ds ps _ h _ _
    obtain ⟨rfl, rfl, rfl⟩ := trodAll_nil h
    exact trodAll_mk0
  | cons t ts ih =>
    intro vs ds ps hr h hs hp
    obtain ⟨v, vs, d, ds, p, q, rfl, rfl, rfl, h0, h1⟩ := trodAll_cons h
    have ht := hr t (by simp)
    exact trodAll_cons_mk (WideElems.Trod_stays hl ht.1 ht.2 h0 (fun x hx => hs x (by simp [hx])) (fun x hx => hp x (by simp [hx]))) (ih (fun t' ht' => hr t' (by simp [ht'])) h1 (fun x hx => hs x (by simp [hx])) (fun x hx => hp x (by simp [hx])))

/-- A law that answers true and has made new blocks alone. -/
theorem post_law {f : Func} {s : ChangeSpec} {W W' : World} {args : Array Value} {ds gs : List (DataW H)} {before : List MemPlace} {tb : TypeId} (hb : P.underlying tb = some .bool) (hrt : f.resultTypes = #[tb]) (hl : laidOutB P = true)
    (hread : ∀ t ∈ f.params.toList, P.readableRec t = true ∧ t < P.types.size) (hsv : s.vars = []) (hW : DataW.Whole enc P f.params.toList s.vars false W args.toList ds gs before)
    (hfr : (s.fn H (ds ++ gs)).results = [.lit (.bool true)]) (hfa : (s.fn H (ds ++ gs)).args = ds) (hfv : (s.fn H (ds ++ gs)).vars = []) (hn : Below W.heap.size W W') :
    s.post enc P f false true false false W args (.bool true) W' := by
  have hlt : ∀ x ∈ before, x.block < W.heap.size := fun x hx => by simpa using hW.lt x hx
  have hW' := hW
  obtain ⟨p, q, hA, hV, hpq, _, _⟩ := hW
  rw [hsv] at hV
  obtain ⟨rfl, rfl⟩ := trodVars_none hV
  rw [List.append_nil] at hpq
  subst hpq
  refine ⟨ds, [], before, [], before, [], hW', ?_, ?_, ?_, ?_, fun h => by cases h⟩
  · rw [hfr, hrt]
    exact trodAll_cons_mk (shut_bool hb true) trodAll_mk0
  · rw [hfa]
    exact trodAll_same hl hread hA (fun x hx => hn.same (hlt x hx)) (fun x hx => by simpa using hlt x hx)
  · rw [hfv, hsv]; rfl
  · exact hn.frame _

/-- A slice of numbers that came in. -/
theorem open_nums {W : World} {t e : TypeId} {k : IntKind} {fuel : Nat} {v : Value} {x : DataW H × List MemPlace} (ht : P.underlying t = some (.slice e)) (he : P.underlying e = some (.int k)) (hc : P.cellsOf e = 1)
    (h : DataW.trod enc P W 0 (fun _ => true) true fuel t [v] = some x) :
    ∃ (A : Option Addr) (cap : Nat) (C : List Int), v = .slice A C.length cap ∧ C.length ≤ cap ∧ cap ≤ maxLen ∧ RdN W k A C ∧ (∀ n ∈ C, (Lit.int k n).wf = true) ∧ ((x.1 = .nil ∧ C = []) ∨ ∃ el sp : List (DataW H), x.1 = .slice el sp ∧ el.length = C.length) := by
  rcases open_ints ht he hc h with ⟨hcs, hx⟩ | ⟨a, len, cap, zs, hcs, _, hl, hm, hz, hx, hcell, hwz⟩
  · injection hcs with hcs _
    exact ⟨none, 0, [], hcs, Nat.le_refl _, Nat.zero_le _, fun y l e => by simp at e, fun n hn => by simp at hn, .inl ⟨by rw [hx], rfl⟩⟩
  · injection hcs with hcs _
    simp only [if_true] at hz
    have hlen : (zs.take len).length = len := by rw [List.length_take]; omega
    refine ⟨some a, cap, zs.take len, by rw [hlen]; exact hcs, by omega, hm, fun y l e => ?_, fun n hn => hwz n (List.mem_of_mem_take hn), .inr ⟨_, _, by rw [hx], by simp [lits]⟩⟩
    obtain ⟨b, off, spot⟩ := a
    have h1 : 1 ≤ len := by rw [← hlen, e]; simp
    have hspot : spot = none := by simpa [Addr.add] using World.cell?_spot (hcell 0 (by omega))
    subst hspot
    refine ⟨b, off, rfl, fun j z hz' => ?_⟩
    have hj : j < len := by have := (List.getElem?_eq_some_iff.1 hz').1; omega
    have hc' := hcell j (by omega)
    rw [add_plain] at hc'
    rw [hc']
    rw [List.getElem?_take, if_pos hj] at hz'
    simp [List.getD, hz']
end
end Rw
end Go.Proofs.Ytjnjppikhdfomaa

namespace Go.Proofs.Ytjnjppikhdfomaa
open Go Go.RowKit Go.Proofs B Rng
namespace Rw
open Go.ChangeShapes Go.WideShapes Go.ChangeAt Go.Deep Go.Joins Swp Stb

/-- A slice of seeds that came in. -/
theorem open_seeds {H : Type} {enc : TypeId × Value → H} {P : Program} {W : World} {t e : TypeId} {f0 f1 f2 : Field} {fuel : Nat} {v : Value} {x : DataW H × List MemPlace} (ht : P.underlying t = some (.slice e)) (he : P.underlying e = some (.struct #[f0, f1, f2])) (hC : P.cellsOf e = 3) (hone : oneCellFields P #[f0, f1, f2] = true)
    (t0 : P.underlying f0.type = some (.int .i64)) (t1 : P.underlying f1.type = some (.int .i64)) (t2 : P.underlying f2.type = some (.int .i64))
    (h : DataW.trod enc P W 0 (fun _ => true) true fuel t [v] = some x) :
    ∃ (A : Option Addr) (cap : Nat) (l : List Sd), v = .slice A l.length cap ∧ RdS W A l := by
  rcases open_slice ht h with ⟨hcs, hx⟩ | ⟨a, len, cap, m, n, D, Pl, hcs, _, hl, hm, hmm, hx, hi⟩
  · injection hcs with hcs _
    exact ⟨none, 0, [], hcs, fun y l e => by simp at e⟩
  · injection hcs with hcs _
    simp only [if_true] at hmm
    have hex : ∀ i, i < len → ∃ s : Sd, W.cell? (a.add (i * 3)) = some (.int .i64 s.cell) ∧ W.cell? (a.add (i * 3 + 1)) = some (.int .i64 s.side) ∧ W.cell? (a.add (i * 3 + 2)) = some (.int .i64 s.key) := fun i hil => by
      obtain ⟨cs', hc, ht'⟩ := hi i (by omega)
      rw [hC] at hc
      obtain ⟨_, hcl, hat⟩ := World.cells?_some hc
      obtain ⟨y0, y1, y2, n', hx', _, h0, h1, h2⟩ := trod_struct3 he ht'
      obtain ⟨o0, k0⟩ := hone_of hone 0 f0 rfl
      obtain ⟨o1, k1⟩ := hone_of hone 1 f1 rfl
      obtain ⟨o2, k2⟩ := hone_of hone 2 f2 rfl
      match cs', hcl with
      | [c0, c1, c2], _ =>
        rw [o0, k0] at h0
        rw [o1, k1] at h1
        rw [o2, k2] at h2
        obtain ⟨n0, e0, _⟩ := DataW.trod_int t0 (cs := [c0]) h0
        obtain ⟨n1, e1, _⟩ := DataW.trod_int t1 (cs := [c1]) h1
        obtain ⟨n2, e2, _⟩ := DataW.trod_int t2 (cs := [c2]) h2
        injection e0 with e0 _
        injection e1 with e1 _
        injection e2 with e2 _
        have a0 := hat 0 (by omega)
        have a1 := hat 1 (by omega)
        have a2 := hat 2 (by omega)
        rw [add_add] at a0 a1 a2
        refine ⟨⟨n0, n1, n2⟩, ?_, ?_, ?_⟩
        · rw [Nat.add_zero] at a0; rw [a0, e0]; rfl
        · rw [a1, e1]; rfl
        · rw [a2, e2]; rfl
    haveI : Inhabited Sd := ⟨⟨0, 0, 0⟩⟩
    obtain ⟨S, hS⟩ := choose_lt hex
    have hlen : ((List.range len).map S).length = len := by simp
    refine ⟨some a, cap, (List.range len).map S, by rw [hlen]; exact hcs, fun y l e => ?_⟩
    have h1 : 1 ≤ len := by rw [← hlen, e]; simp
    obtain ⟨b, off, spot⟩ := a
    have hspot : spot = none := by
      have := (hS 0 (by omega)).1
      simpa [Addr.add] using World.cell?_spot this
    subst hspot
    refine ⟨b, off, rfl, fun j s hs => ?_⟩
    have hj : j < len := by have := (List.getElem?_eq_some_iff.1 hs).1; omega
    have hsj : S j = s := by
      rw [List.getElem?_map, List.getElem?_range hj] at hs
      simpa using hs
    subst hsj
    have := hS j hj
    rw [add_plain, add_plain, add_plain] at this
    rw [← Nat.add_assoc, ← Nat.add_assoc] at this
    exact this

theorem own : ownKnob Try.prog.godebug = none := by kernel_rfl
theorem laidOut : laidOutB Try.prog = true := by kernel_rfl
theorem cellsInt : Try.prog.cellsOf 3 = 1 := by kernel_rfl
theorem cellsByte : Try.prog.cellsOf 5 = 1 := by kernel_rfl
theorem cellsSeed : Try.prog.cellsOf 52 = 3 := by kernel_rfl
theorem cellsTile : Try.prog.cellsOf 24 = 3 := by kernel_rfl
theorem bytesInt : Try.prog.bytesOf 3 = 8 := by kernel_rfl

theorem wf_u8 {n : Int} (h : (Lit.int .u8 n).wf = true) : 0 ≤ n ∧ n ≤ 255 := by simpa [Lit.wf, IntKind.min, IntKind.max, IntKind.signed, IntKind.bits] using h

theorem rdTile : (Try.prog).readableRec 24 = true ∧ 24 < Try.prog.types.size := ⟨by kernel_rfl, of_decide_eq_true (by kernel_rfl)⟩
theorem rdInt : (Try.prog).readableRec 3 = true ∧ 3 < Try.prog.types.size := ⟨by kernel_rfl, of_decide_eq_true (by kernel_rfl)⟩
theorem rdInts : (Try.prog).readableRec 25 = true ∧ 25 < Try.prog.types.size := ⟨by kernel_rfl, of_decide_eq_true (by kernel_rfl)⟩
theorem rdSeeds : (Try.prog).readableRec 26 = true ∧ 26 < Try.prog.types.size := ⟨by kernel_rfl, of_decide_eq_true (by kernel_rfl)⟩
theorem rdBool : (Try.prog).readableRec 4 = true ∧ 4 < Try.prog.types.size := ⟨by kernel_rfl, of_decide_eq_true (by kernel_rfl)⟩
theorem readAll : ∀ t ∈ Try.f3.params.toList, (Try.prog).readableRec t = true ∧ t < Try.prog.types.size := by
  rw [Try.params3]
  intro t ht
  simp only [List.mem_cons, List.not_mem_nil, or_false] at ht
  rcases ht with rfl | rfl | rfl | rfl | rfl | rfl
  · exact rdTile
  · exact rdInt
  · exact rdInt
  · exact rdInts
  · exact rdSeeds
  · exact rdBool

set_option maxRecDepth 100000 in
theorem contract (H : Type) (enc : TypeId × Value → H) (W : World) (base : Nat) (args : Array Value) (ds gs : List (DataW H)) (before : List MemPlace)
    (hval : ∀ (j : Nat) t v, Try.f3.params[j]? = some t → args[j]? = some v → Value.okWide Try.prog W .any base t v)
    (hW : DataW.Whole enc Try.prog Try.f3.params.toList Rows.spreadAsksSpec.vars false W args.toList ds gs before)
    (hsz : (DataW.weightsEach Try.prog (Try.f3.params.toList ++ Rows.spreadAsksSpec.plain.varTypes Try.prog) (ds ++ gs)).all (· ≤ reachBytes) = true) :
    Calls Try.prog 3 args W fun e W' => ∃ v, e = .returned v ∧ Rows.spreadAsksSpec.post enc Try.prog Try.f3 false true false false W args v W' := by
  have hW' := hW
  obtain ⟨p, q, hA0, hV, rfl, _, _⟩ := hW
  have hA : DataW.TrodAll enc Try.prog W 0 (fun _ => true) true Try.f3.params.toList args.toList ds p := hA0
  have hpost : ∀ W', Nw W W' → (Rows.spreadAsksSpec.fn H (ds ++ gs)).results = [.lit (.bool true)] → (Rows.spreadAsksSpec.fn H (ds ++ gs)).args = ds → (Rows.spreadAsksSpec.fn H (ds ++ gs)).vars = [] → Rows.spreadAsksSpec.post enc Try.prog Try.f3 false true false false W args (.bool true) W' := fun W' hn h1 h2 h3 =>
    post_law Try.underlying4 rfl laidOut readAll rfl hW' h1 h2 h3 (Fr.below hn (Nat.le_refl _) (fun _ _ h => h))
  rw [Try.params3] at hA hval hsz
  obtain ⟨v0, vs0, d0, ds0, p0, q0, hargs, rfl, rfl, h0, r0⟩ := trodAll_cons hA
  obtain ⟨v1, vs1, d1, ds1, p1, q1, rfl, rfl, rfl, h1, r1⟩ := trodAll_cons r0
  obtain ⟨v2, vs2, d2, ds2, p2, q2, rfl, rfl, rfl, h2, r2⟩ := trodAll_cons r1
  obtain ⟨v3, vs3, d3, ds3, p3, q3, rfl, rfl, rfl, h3, r3⟩ := trodAll_cons r2
  obtain ⟨v4, vs4, d4, ds4, p4, q4, rfl, rfl, rfl, h4, r4⟩ := trodAll_cons r3
  obtain ⟨v5, vs5, d5, ds5, p5, q5, rfl, rfl, rfl, h5, r5⟩ := trodAll_cons r4
  obtain ⟨rfl, rfl, rfl⟩ := trodAll_nil r5
  obtain rfl : args = #[v0, v1, v2, v3, v4, v5] := by cases args; simp_all
  obtain ⟨rfl, rfl⟩ := trodVars_none hV
  obtain ⟨a0, a1, a2, y0, y1, y2, n0, rfl, rfl, -, g0, g1, g2⟩ := open_agg3 Try.underlying24 (by kernel_rfl) cellsTile (hval 0 _ v0 rfl rfl) h0
  obtain ⟨TW, e0, e0', _⟩ := DataW.trod_int Try.underlying3 g0
  obtain ⟨TH, e1, e1', _⟩ := DataW.trod_int Try.underlying3 g1
  injection e0 with e0 _
  injection e1 with e1 _
  subst e0; subst e1
  obtain ⟨AC, cap, C, rfl, hc1, hc2, hrC, hwC, -⟩ := open_nums Try.underlying22 Try.underlying5 cellsByte g2
  obtain ⟨b1, rfl, rfl, rfl, w1⟩ := open_int Try.underlying3 (hval 1 _ v1 rfl rfl) h1
  obtain ⟨b2, rfl, rfl, rfl, w2⟩ := open_int Try.underlying3 (hval 2 _ v2 rfl rfl) h2
  obtain ⟨a3, len3, cap3, rfl⟩ := okWide_slice Try.underlying25 (hval 3 _ v3 rfl rfl)
  obtain ⟨a4, len4, cap4, rfl⟩ := okWide_slice Try.underlying26 (hval 4 _ v4 rfl rfl)
  obtain ⟨raw, rfl, rfl, rfl⟩ := open_bool Try.underlying4 (hval 5 _ v5 rfl rfl) h5
  obtain ⟨fu3, g3⟩ := h3
  obtain ⟨fu4, g4⟩ := h4
  obtain ⟨AK, kcap, K, eK, hk1, hk2, hrK, hwK, hdK⟩ := open_nums Try.underlying25 Try.underlying3 cellsInt (v := .slice a3 len3 cap3) g3
  obtain ⟨As, scap, l, eS, hrS⟩ := open_seeds Try.underlying26 Try.underlying52 cellsSeed (by kernel_rfl) Try.underlying3 Try.underlying3 Try.underlying3 (v := .slice a4 len4 cap4) g4
  have hK3 : K.length ≤ 140737488351232 := by
    rcases hdK with ⟨_, rfl⟩ | ⟨el, sp, hd, hel⟩
    · simp
    · have := sized_slice hsz (j := 3) (t := 25) (e := 3) rfl (by simpa using hd) Try.underlying25
      rw [bytesInt, hel] at this
      simp only [reachBytes] at this
      omega
  rw [eK, eS] at hpost ⊢
  refine (law_any TW TH AC C cap b1 b2 AK K kcap As l scap raw W hrC (fun b hb => wf_u8 (hwC b hb)) hrK hk1 hk2 hK3 hrS).mono fun e W' ⟨he, hn⟩ => ?_
  exact ⟨_, he, hpost W' hn rfl rfl rfl⟩

set_option maxRecDepth 100000 in
theorem lifted (os : Os) (started : os.Started) (H : Type) (enc : TypeId × Value → H) :
    ReturnsInHanded {} Try.checked os 3 .any (Rows.spreadAsksSpec.pre6 enc Try.prog Try.f3 Rows.spreadAsksRow.domain false) (Rows.spreadAsksSpec.post enc Try.prog Try.f3 false true false false) := by
  refine returnsInHanded_of_change_sized (C := Try.checked) own started (by kernel_rfl) Try.func3
    (ChangeSpec.witness6 (enc := enc) (C := Try.checked) false ⟨#[], #[.agg #[.int .i64 0, .int .i64 0, .slice none 0 0], .int .i64 0, .int .i64 0, .slice none 0 0, .slice none 0 0, .bool false], []⟩ 8 (by kernel_rfl) (by kernel_rfl) (by kernel_rfl) (by kernel_rfl)) ?_
  intro W base args ds gs before hval hW _ hsz _
  exact contract H enc W base args ds gs before hval hW hsz
end Rw

theorem SpreadAsks_holds : Rows.SpreadAsksSaid :=
  OpenClaim.holds_of_wide 3 Try.f3 rfl rfl rfl rfl rfl rfl rfl ⟨rfl, rfl, rfl, rfl, rfl⟩ rfl rfl rfl rfl rfl (by kernel_rfl) Try.func3 (by kernel_rfl)
    (of_decide_eq_true (by kernel_rfl)) (by unfold Func.isWrapper; first | (rw [if_pos (by decide +kernel)]; kernel_rfl) | (rw [if_neg (by decide +kernel)]; exact ⟨rfl, rfl⟩))
    (fun os started H enc _ => Rw.lifted os started H enc)

#print axioms SpreadAsks_holds
end Go.Proofs.Ytjnjppikhdfomaa
