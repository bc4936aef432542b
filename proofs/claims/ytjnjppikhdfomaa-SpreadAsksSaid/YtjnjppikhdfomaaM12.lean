import Derived.Test.YtjnjppikhdfomaaM11
set_option linter.unusedVariables false
set_option linter.unusedSimpArgs false

namespace Go.Proofs.Ytjnjppikhdfomaa
open Go Go.RowKit Go.Proofs B Rng
namespace Stb
open Swp Ref

theorem rdv_seeds {w : World} {A : Option Addr} {l : List Sd} (h : RdS w A l) : RdV w A l.length (flatS l) := by
  refine ⟨fun e => ?_, fun ad e => ?_⟩
  · cases l with
    | nil => exact ⟨rfl, rfl⟩
    | cons x l => obtain ⟨b, o, ha, _⟩ := h x l rfl; rw [e] at ha; simp at ha
  · cases l with
    | nil => intro j u hu; simp [flatS] at hu
    | cons x l =>
      obtain ⟨b, o, ha, hc⟩ := h x l rfl
      rw [e] at ha
      injection ha with ha
      subst ha
      intro j u hu
      have hadd : (⟨b, o, none⟩ : Addr).add j = ⟨b, o + j, none⟩ := by unfold Addr.add; split <;> simp_all
      rw [hadd]
      exact flatS_rd hc j u hu

theorem CoreAt.nw' {w V V' : World} {T : Nat} {W H : Int} {A : Option Addr} {C : List Int} {cap : Nat} {As : Option Addr} {l : List Sd} (h : CoreAt w V T W H A C cap As l) (hn : Nw V V') : CoreAt w V' T W H A C cap As l :=
  { nw := h.nw.trans hn, row := h.row.fr hn (fun h => h), new := h.new, rd := h.rd.nw hn, rs := h.rs.nw hn, byt := h.byt, lc := h.lc, ll := h.ll }

theorem rds_of_own {w : World} {v : Value} {l : List Sd} (h : Own w 52 3 v l.length (flatS l)) : ∃ A c, v = .slice A l.length c ∧ RdS w A l := by
  obtain ⟨A, c, rfl, hA, _⟩ := h.slice
  refine ⟨A, c, rfl, fun s l' e => ?_⟩
  obtain ⟨g, rfl⟩ := hA (by rw [e]; simp)
  exact ⟨g, 0, rfl, (srow_of_own h).1⟩

/-- The copy of the tile, the copy of the seeds, and the box. -/
theorem CoreAt.start {wb w1 w2 : World} {W H : Int} {A1 : Option Addr} {C : List Int} {c1 : Nat} {v2 : Value} {l : List Sd} (h1 : RdN w1 .u8 A1 C) (n1 : Nw wb w1) (hb : ∀ b ∈ C, 0 ≤ b ∧ b ≤ 255) (lc : C.length ≤ 1048576) (ll : l.length ≤ 65536)
    (ho : Own w2 52 3 v2 l.length (flatS l)) (hg : (w1.alloc (.cells #[] 52)).grownBy w2 (Value.slice (some ⟨w1.heap.size, 0, none⟩) 0 0).ownBlock) :
    ∃ A2 c2, v2 = .slice A2 l.length c2 ∧ CoreAt wb (w2.alloc (.cells #[.int .i64 W, .int .i64 H, .slice A1 C.length c1] 24)) w2.heap.size W H A1 C c1 A2 l := by
  have ho' : Own w2 52 3 v2 l.length (flatS l) := ho
  have n2 : Nw w1 w2 := Fr.grown (Nw.alloc w1 _) hg (fun k hk hlt => by injection hk with hk; have hk' : w1.heap.size = k := hk; omega)
  obtain ⟨A2, c2, rfl, hr⟩ := rds_of_own ho'
  have n3 := Nw.alloc w2 (.cells #[.int .i64 W, .int .i64 H, .slice A1 C.length c1] 24)
  exact ⟨A2, c2, rfl, { nw := (n1.trans n2).trans n3, row := Row.new w2 _ _, new := (n1.trans n2).size, rd := (h1.nw n2).nw n3, rs := hr.nw n3, byt := hb, lc := lc, ll := ll }⟩

/-- The tile that was made, stored into the box. -/
theorem CoreAt.made {wb V w1 : World} {T : Nat} {W H : Int} {A : Option Addr} {C : List Int} {cap : Nat} {As : Option Addr} {l : List Sd} (h : CoreAt wb V T W H A C cap As l) (n1 : Nw V w1) {W' H' : Int} {A' : Option Addr} {C' : List Int} (c' : Nat) (hr : RdN w1 .u8 A' C') (hC : 1 ≤ C'.length) (hC2 : C'.length ≤ 256) (hb : ∀ b ∈ C', 0 ≤ b ∧ b ≤ 255) :
    CoreAt wb (((w1.setCell ⟨T, 0, none⟩ (.int .i64 W')).setCell ⟨T, 1, none⟩ (.int .i64 H')).setCell ⟨T, 2, none⟩ (.slice A' C'.length c')) T W' H' A' C' c' none [] := by
  have hrow := h.row.fr n1 (fun h => h)
  have hf : Fr (fun k => k = T) w1 (((w1.setCell ⟨T, 0, none⟩ (.int .i64 W')).setCell ⟨T, 1, none⟩ (.int .i64 H')).setCell ⟨T, 2, none⟩ (.slice A' C'.length c')) :=
    Fr.setCell (p := ⟨T, 2, none⟩) (Fr.setCell (p := ⟨T, 1, none⟩) (Fr.setCell (p := ⟨T, 0, none⟩) (Fr.refl (fun k => k = T) w1) (fun _ => rfl) _) (fun _ => rfl) _) (fun _ => rfl) _
  refine { nw := Fr.trans (h.nw.trans n1) hf (fun k hk e => by have := h.new; omega), row := ?_, new := h.new, rd := fun x l' e => ?_, rs := fun s l' e => by simp at e, byt := hb, lc := by omega, ll := by simp }
  · have := ((hrow.set 0 (.int .i64 W')).set 1 (.int .i64 H')).set 2 (.slice A' C'.length c')
    simpa using this
  · obtain ⟨b, o, ha, hc⟩ := hr x l' e
    have hne : b ≠ T := by
      rintro rfl
      have h0 := hc 0 x (by rw [e]; rfl)
      rw [hrow.cell] at h0
      match o, h0 with
      | 0, h0 => simp at h0
      | 1, h0 => simp at h0
      | 2, h0 => simp at h0
      | o + 3, h0 => simp at h0
    refine ⟨b, o, ha, fun j y hy => ?_⟩
    have hcj := hc j y hy
    exact (hf.cell (p := ⟨b, o + j, none⟩) (World.block_lt_of_cell? w1 _ hcj) hne).trans hcj
theorem CoreAt.seeds {wb V V' : World} {T : Nat} {W H : Int} {A : Option Addr} {C : List Int} {cap : Nat} {As As' : Option Addr} {l l' : List Sd} (h : CoreAt wb V T W H A C cap As l) (hn : Nw V V') (hr : RdS V' As' l') (hl : l'.length ≤ 65536) : CoreAt wb V' T W H A C cap As' l' :=
  { nw := h.nw.trans hn, row := h.row.fr hn (fun h => h), new := h.new, rd := h.rd.nw hn, rs := hr, byt := h.byt, lc := h.lc, ll := hl }

def SdT (V : World) (e : Ending) (w1 : World) : Prop := ∃ A l m c, e = .returned (.slice A m c) ∧ Hid (m = l.length ∧ l.length ≤ 65536 ∧ RdS w1 A l ∧ Nw V w1)
theorem seeds_at (W H : Int) (A : Option Addr) (C : List Int) (n cap : Nat) (AK : Option Addr) (K : List Int) (m kcap : Nat) (w : World) (h : RdN w .u8 A C) (hn : n = C.length) (hC1 : 1 ≤ C.length) (hC2 : C.length ≤ 256) (hk : RdN w .i64 AK K) (hm : m = K.length) (hkl : K.length ≤ 24) :
    Calls Try.prog 8 #[.agg #[.int .i64 W, .int .i64 H, .slice A n cap], .slice AK m kcap] w (SdT w) := by
  subst hn; subst hm
  refine (refSeeds_any W H A C cap AK K kcap w h hC1 (by omega) hk (by omega)).mono fun e w' h => ?_
  obtain ⟨A', l, c, h1, h2, h3, h4⟩ := h
  exact ⟨A', l, l.length, c, h1, rfl, by omega, h2, h4⟩
def FwT (AK : Option Addr) (kcap : Nat) (V : World) (e : Ending) (w1 : World) : Prop := ∃ K m, e = .returned (.slice AK m kcap) ∧ Hid (m = K.length ∧ RdN w1 .i64 AK K ∧ K.length ≤ 24) ∧ V = w1

def OwT (wb : World) (W H : Int) (C : List Int) (n : Nat) (e : Ending) (w1 : World) : Prop := ∃ A c, e = .returned (.agg #[.int .i64 W, .int .i64 H, .slice A n c]) ∧ Hid (RdN w1 .u8 A C) ∧ Hid (Nw wb w1)
def MdT (V : World) (e : Ending) (w1 : World) : Prop := ∃ W H A n c, e = .returned (.agg #[.int .i64 W, .int .i64 H, .slice A n c]) ∧ ∃ C, Hid (RdN w1 .u8 A C ∧ n = C.length ∧ 1 ≤ C.length ∧ C.length ≤ 256 ∧ (∀ b ∈ C, 0 ≤ b ∧ b ≤ 255)) ∧ Hid (Nw V w1)

theorem ints_len (A B : Option Addr) (a b : List Int) (ca cb na nb : Nat) (V : World) (ha : RdN V .i64 A a) (hb : RdN V .i64 B b) (hla : na ≤ 140737488351232) (hna : na = a.length) (hnb : nb = b.length) (hab : a = b) :
    Calls Try.prog 14 #[.slice A na ca, .slice B nb cb] V fun e w' => e = .returned (.bool true) ∧ Nw V w' := by
  subst hna; subst hnb
  exact ints_at A B a b ca cb V V (Nw.refl V) ha hb hla hab
theorem want_at {V : World} {g : Nat} {D : List Int} (h : RdN V .i64 (some ⟨g, 0, none⟩) D) {k : Nat} (hk : k < D.length) : V.cell? ⟨g, k, none⟩ = some (.int .i64 (at0 D (k : Int))) := by
  obtain ⟨b, o, e, hc⟩ := h.at hk
  injection e with e; injection e with e1 e2
  subst e1; subst e2
  rw [Nat.zero_add] at hc
  exact hc
theorem OrdAt.skip {w V : World} {v : Value} {D : List Int} {k : Nat} {O : List Int} (h : OrdAt w V v D k O) (e : at0 D (k : Int) = inf) : OrdAt w V v D (k + 1) O := ⟨h.own, h.ord.skip e, h.isnil⟩

set_option maxRecDepth 100000 in
set_option maxHeartbeats 8000000 in
theorem law_any (W H : Int) (A : Option Addr) (C : List Int) (cap : Nat) (w0 h0 : Int) (AK : Option Addr) (K : List Int) (kcap : Nat) (As : Option Addr) (l : List Sd) (scap : Nat) (raw : Bool) (w : World) (hC : RdN w .u8 A C) (hb : ∀ b ∈ C, 0 ≤ b ∧ b ≤ 255) (hK : RdN w .i64 AK K) (hK1 : K.length ≤ kcap) (hK2 : kcap ≤ maxLen) (hK3 : K.length ≤ 140737488351232) (hs : RdS w As l) :
    Calls Try.prog 3 #[.agg #[.int .i64 W, .int .i64 H, .slice A C.length cap], .int .i64 w0, .int .i64 h0, .slice AK K.length kcap, .slice As l.length scap, .bool raw] w fun e w' => e = .returned (.bool true) ∧ Nw w w' := by
  obtain ⟨i0, hi, hz0, hz1, hz2⟩ := info_parts infoSeed
  have HTO := fun V hV => Lib.hid (told_at w V hV)
  have HN0 := Nw.alloc w (.cells #[.int .i64 W, .int .i64 H, .slice A C.length cap] 24)
  by_cases hc1 : 600 < C.length
  · have i1 : (C.length : Int) > 600 := by omega
    clear hC hb hK hs hK1 hK2 hK3
    generalize C.length = n at *
    generalize l.length = m at *
    generalize K.length = q at *
    go_enter Try.func3, Try.ntmps3
    go_wp2_with (go_at_call 5; refine ((HTO _ (by first | exact Nw.alloc _ _)).out).mono ?_; rintro e w' ⟨rfl, hw⟩)
    go_ret
    exact ⟨rfl, hw⟩
  · by_cases hl1 : 40 < l.length
    · have i1 : ¬ (C.length : Int) > 600 := by omega
      have i2 : (l.length : Int) > 40 := by omega
      clear hC hb hK hs hK1 hK2 hK3
      generalize C.length = n at *
      generalize l.length = m at *
      generalize K.length = q at *
      go_enter Try.func3, Try.ntmps3
      go_wp2_with (go_at_call 5; refine ((HTO _ (by first | exact Nw.alloc _ _)).out).mono ?_; rintro e w' ⟨rfl, hw⟩)
      go_ret
      exact ⟨rfl, hw⟩
    · have i1 : ¬ (C.length : Int) > 600 := by omega
      have i2 : ¬ (l.length : Int) > 40 := by omega
      have HOT := fun V (hV : Nw w V) => Lib.hid ((ownTile_any W H A C cap V (hC.nw hV) (by omega)).mono fun e w' h => show OwT V W H C C.length e w' by
        obtain ⟨A', c', h1, h2, h3, _⟩ := h; exact ⟨A', c', h1, h2, h3⟩)
      have HRV : Hid (∀ V, Nw w V → RdV V As l.length (flatS l)) := fun V hV => rdv_seeds (hs.nw hV)
      have HBY := Lib.hid hb
      have HST : Hid (∀ (wb w1 w2 : World) (A1 : Option Addr) (c1 : Nat) (v2 : Value), RdN w1 .u8 A1 C → Nw wb w1 → Own w2 52 3 v2 l.length (flatS l) → (w1.alloc (.cells #[] 52)).grownBy w2 (Value.slice (some ⟨w1.heap.size, 0, none⟩) 0 0).ownBlock → ∃ A2 c2, v2 = .slice A2 l.length c2 ∧ CoreAt wb (w2.alloc (.cells #[.int .i64 W, .int .i64 H, .slice A1 C.length c1] 24)) w2.heap.size W H A1 C c1 A2 l) := fun wb w1 w2 A1 c1 v2 a b c d => CoreAt.start a b hb (by omega) (by omega) c d
      have HMT := fun V (hV : Nw w V) => Lib.hid ((madeTile_any w0 h0 A C cap V (hC.nw hV) (by omega) hb).mono fun e w' h => show MdT V e w' by
        obtain ⟨W', H', A', C', c', h1, h2, h3, h4, h5, h6⟩ := h; exact ⟨W', H', A', C'.length, c', h1, C', ⟨h2, rfl, h3, h4, h5⟩, h6⟩)
      have HFW := fun V (hV : Nw w V) => Lib.hid ((few_any AK K kcap V (hK.nw hV) hK1 hK3 hK2).mono fun e w' h => show FwT AK kcap V e w' by
        obtain ⟨K', h1, h2, h3, h4⟩ := h; exact ⟨K', K'.length, h1, ⟨rfl, h2, h3⟩, h4⟩)
      have HLF : Hid ((flatS l).length = l.length * 3) := length_flatS l
      have HL1 : Hid (∀ u ∈ flatS l, u.oneCell' = true) := flatS_one l
      have hbx : Hid (∀ V, Nw (w.alloc (.cells #[.int .i64 W, .int .i64 H, .slice A C.length cap] 24)) V → V.cell? ⟨w.heap.size, 0, none⟩ = some (.int .i64 W) ∧ V.cell? ⟨w.heap.size, 1, none⟩ = some (.int .i64 H) ∧ V.cell? ⟨w.heap.size, 2, none⟩ = some (.slice A C.length cap)) := fun V hV => by
        have hr := Row.new w #[.int .i64 W, .int .i64 H, .slice A C.length cap] 24
        exact ⟨hV.cell (hr.cell 0), hV.cell (hr.cell 1), hV.cell (hr.cell 2)⟩
      have HWB : Hid (∀ V, Nw (w.alloc (.cells #[.int .i64 W, .int .i64 H, .slice A C.length cap] 24)) V → Nw w V) := fun V hV => HN0.trans hV
      have hmb : l.length ≤ 40 := by omega
      clear hC hb hK hK1 hK2 hK3 hs HN0
      go_enter Try.func3, Try.ntmps3
      go_upto_region 3 with fail
      generalize hwb : w.alloc (.cells #[.int .i64 W, .int .i64 H, .slice A C.length cap] 24) = wb at *
      generalize w.heap.size = T0 at *
      go_cut [13, 14] from 33 to 37 (fun x13 x14 wx => ∃ (T : Nat) (A1 : Option Addr) (c1 : Nat) (A2 : Option Addr) (c2 : Nat), x13 = .pointer (some ⟨T, 0, none⟩) ∧ x14 = .slice A2 l.length c2 ∧ Hid (CoreAt wb wx T W H A1 C c1 A2 l))
      case first =>
        obtain ⟨d0, d1, d2⟩ := hbx.out wb (Nw.refl _)
        have HWN := Lib.hid (HWB.out wb (Nw.refl _))
        have HLL : Hid (l.length ≤ 40) := hmb
        have HNB := fun V => Lib.hid (Nw.refl V)
        clear hwb HTO HMT HFW hbx
        go_wp2_with fail
        refine ((HOT _ HWN.out).out).mono ?_
        rintro e w1 ⟨A1, c1, rfl, hr1, hn1⟩
        have HRV1 := Lib.hid ((HRV.out w1 (HWN.out.trans hn1.out)).nw (Nw.alloc w1 (.cells #[] 52)))
        have HO0 : Hid (Own (w1.alloc (.cells #[] 52)) 52 3 (.slice (some ⟨w1.heap.size, 0, none⟩) 0 0) 0 []) := ⟨rfl, .inr ⟨w1.heap.size, 0, #[], rfl, Nat.zero_le _, Row.new w1 _ _, Nat.le_refl _, Nat.zero_le _, rfl, rfl⟩⟩
        clear HOT HRV
        go_wp2_with (refine wpL_append_rd rfl (.tmp 35) (.tmp 36) 26 rfl 52 i0 _ 3 24 Try.underlying26 hi hz0 hz1 hz2 rfl (.slice (some ⟨w1.heap.size, 0, none⟩) 0 0) 0 [] rfl HO0.out As l.length scap (flatS l) rfl HLF.out HRV1.out HL1.out ?b1 ?b2 ?_)
        case b1 => unfold maxLen; omega
        case b2 => omega
        intro v2 w2 ho hg _
        obtain ⟨A2, c2, rfl, hcore⟩ := HST.out wb w1 w2 A1 c1 v2 hr1.out hn1.out ho hg
        have HC := Lib.hid hcore
        clear ho hg hcore HO0 HRV1 HST hr1 hn1
        go_wp2_with fail
        go_meet
        exact ⟨_, _, _, _, _, rfl, rfl, HC⟩
      case rest =>
        obtain ⟨T, A1, c1, A2, c2, rfl, rfl, hcore⟩ := hcut
        clear HOT HRV HST HBY HLF HL1
        go_upto_if 39 with fail
        go_cut [14] from 40 to 48 (fun x14 wx => ∃ (W' H' : Int) (A' : Option Addr) (C' : List Int) (c' : Nat) (As' : Option Addr) (l' : List Sd) (s' : Nat), x14 = .slice As' l'.length s' ∧ Hid (CoreAt wb wx T W' H' A' C' c' As' l'))
        case first =>
          clear HTO hwb
          cases raw with
          | true =>
            go_wp2_with fail
            go_meet
            exact ⟨W, H, A1, C, c1, A2, l, c2, rfl, hcore⟩
          | false =>
            obtain ⟨-, -, d2⟩ := hbx.out wc hcore.out.nw
            have HWC := Lib.hid (HWB.out wc hcore.out.nw)
            clear hbx
            go_wp2_with fail
            refine ((HMT _ HWC.out).out).mono ?_
            rintro e w1 ⟨W', H', A', n', c', rfl, C', hmd, hn1⟩
            have HC2 : Hid (CoreAt wb (((w1.setCell ⟨T, 0, none⟩ (.int .i64 W')).setCell ⟨T, 1, none⟩ (.int .i64 H')).setCell ⟨T, 2, none⟩ (.slice A' n' c')) T W' H' A' C' c' none []) := Lib.hid (by
              obtain ⟨h1, rfl, h2, h3, h4⟩ := hmd.out
              exact hcore.out.made hn1.out c' h1 h2 h3 h4)
            have hrow := hcore.out.row.fr hn1.out (fun h => h)
            have f0 : w1.frozen? ⟨T, 0, none⟩ = false := hrow.free 0
            have f1 : w1.frozen? ⟨T, 1, none⟩ = false := hrow.free 1
            have f2 : w1.frozen? ⟨T, 2, none⟩ = false := hrow.free 2
            have g0 : w1.cell? ⟨T, 0, none⟩ = some (.int .i64 W) := hrow.cell 0
            have g1 : w1.cell? ⟨T, 1, none⟩ = some (.int .i64 H) := hrow.cell 1
            have g2 : w1.cell? ⟨T, 2, none⟩ = some (.slice A1 C.length c1) := hrow.cell 2
            clear hrow hcore
            go_upto_region 6 with fail
            generalize (((w1.setCell ⟨T, 0, none⟩ (.int .i64 W')).setCell ⟨T, 1, none⟩ (.int .i64 H')).setCell ⟨T, 2, none⟩ (.slice A' n' c')) = w2 at *
            have HW2 := Lib.hid (HWB.out w2 HC2.out.nw)
            have HNL : Hid (n' = C'.length) := hmd.out.2.1
            have HSD := fun V K' m (hV : Nw w2 V) (hk : RdN V .i64 AK K') (hm : m = K'.length) (hkl : K'.length ≤ 24) => Lib.hid (seeds_at W' H' A' C' n' c' AK K' m kcap V (HC2.out.rd.nw hV) HNL.out hmd.out.2.2.1 hmd.out.2.2.2.1 hk hm hkl)
            obtain ⟨k0, k1, k2, -⟩ := HC2.out.box
            rw [← HNL.out] at k2
            clear HMT f0 f1 f2 g0 g1 g2 hn1 HWC d2 HWB
            go_region_held3 (fun w' => w'.cell? ⟨T, 0, none⟩ = some (.int .i64 W') ∧ w'.cell? ⟨T, 1, none⟩ = some (.int .i64 H') ∧ w'.cell? ⟨T, 2, none⟩ = some (.slice A' n' c')) (first | assumption | exact ⟨k0, k1, k2⟩ | exact ⟨hl'.out.2.2.2.cell k0, hl'.out.2.2.2.cell k1, hl'.out.2.2.2.cell k2⟩) (first | (go_at_call 9; refine ((HFW _ (by first | exact HW2.out | exact Fr.drew HW2.out)).out).mono ?_; rintro e w' ⟨K', m', rfl, hk', rfl⟩) | (go_at_call 8; refine ((HSD _ K' m' (by first | exact Nw.refl _ | exact Fr.drew (Nw.refl _)) hk'.out.2.1 hk'.out.1 hk'.out.2.2).out).mono ?_; rintro e w3 ⟨As', l', m2, s', rfl, hl'⟩))
            all_goals
              have HC3 := Lib.hid (HC2.out.seeds (by first | exact Nw.undrew hl'.out.2.2.2 | exact hl'.out.2.2.2) hl'.out.2.2.1 hl'.out.2.1)
              have HM2 : Hid (m2 = l'.length) := hl'.out.1
              clear HSD HFW hl' HC2 k0 k1 k2
              go_wp2_with fail
              go_meet
              exact ⟨W', H', A', C', c', As', l', s', by rw [HM2.out], HC3⟩
        case rest =>
          obtain ⟨W', H', A', C', c', As', l', s', rfl, hC⟩ := hcut
          clear hcore HMT HFW hbx hwb
          have HB : Hid (∀ V, Nw wc V → V.cell? ⟨T, 0, none⟩ = some (.int .i64 W') ∧ V.cell? ⟨T, 1, none⟩ = some (.int .i64 H') ∧ V.cell? ⟨T, 2, none⟩ = some (.slice A' C'.length c')) := fun V hV => by
            have := hC.out.box.nw hV
            exact ⟨this.c0, this.c1, this.c2⟩
          have hcc := hC.out
          have HWC : Hid (∀ V, Nw wc V → Nw w V) := fun V hV => (HWB.out wc hcc.nw).trans hV
          have hlc := hcc.lc
          cases hm : smayB W' H' C' l' with
          | false =>
            have HSN := fun V (hV : Nw wc V) => Lib.hid (spread_no W' H' A' C' c' As' l' s' wc V hV hcc.rd (by omega) hcc.byt hcc.rs hcc.ll hm)
            have HSE := fun V (hV : Nw wc V) => Lib.hid (set_no W' H' A' C' c' As' l' s' wc V hV hcc.rd (by omega) hcc.byt hcc.rs hcc.ll hm)
            have HMS := fun V (hV : Nw wc V) => Lib.hid (ms_at W' H' A' C' c' As' l' s' wc V hV hcc.rd (by omega) hcc.byt hcc.rs hcc.ll false hm)
            clear hcc hC hm HWB
            generalize C'.length = n' at *
            generalize l'.length = m' at *
            obtain ⟨k0, k1, k2⟩ := HB.out wc (Nw.refl _)
            go_wp2_with fail
            refine ((HSN _ (Nw.refl _)).out).mono ?_
            rintro e w8 ⟨rfl, n8⟩
            clear k0 k1 k2
            obtain ⟨k0, k1, k2⟩ := HB.out _ n8
            go_wp2_with fail
            refine ((HSE _ n8).out).mono ?_
            rintro e w9 ⟨rfl, n9⟩
            clear k0 k1 k2 n8
            obtain ⟨k0, k1, k2⟩ := HB.out _ n9
            go_wp2_with fail
            refine ((HMS _ n9).out).mono ?_
            rintro e w10 ⟨rfl, n10⟩
            have h10 := HWC.out _ n10
            clear k0 k1 k2 n9 n10 HB HSN HSE HMS HWC
            go_wp2_with fail
            refine ((HTO _ h10).out).mono ?_
            rintro e w11 ⟨rfl, n11⟩
            clear HTO h10
            go_wp2
            first | exact ⟨rfl, n11⟩ | (go_ret; exact ⟨rfl, n11⟩)
          | true =>
            have HSN := fun V (hV : Nw wc V) => Lib.hid (spread_yes W' H' A' C' c' As' l' s' V V (Nw.refl V) (hcc.rd.nw hV) (by omega) hcc.byt (hcc.rs.nw hV) hcc.ll hm)
            have HSE := fun V (hV : Nw wc V) => Lib.hid (set_yes W' H' A' C' c' As' l' s' V V (Nw.refl V) (hcc.rd.nw hV) (by omega) hcc.byt (hcc.rs.nw hV) hcc.ll hm)
            have HMS := fun V (hV : Nw wc V) => Lib.hid (ms_at W' H' A' C' c' As' l' s' V V (Nw.refl V) (hcc.rd.nw hV) (by omega) hcc.byt (hcc.rs.nw hV) hcc.ll true hm)
            have HRF := fun V (hV : Nw wc V) => Lib.hid (ref_at W' H' A' C' c' As' l' s' V V (Nw.refl V) (hcc.rd.nw hV) hcc.byt (hcc.rs.nw hV) hcc.ll hm)
            have hmb : mayB W' H' C' = true := by
              unfold smayB at hm; simp only [Bool.and_eq_true] at hm; exact hm.1
            have hn2 := (mayB_ok hcc.byt hmb).le
            have HBL : Hid (∀ D, Best W' H' C' l' D → D.length = C'.length) := fun D h => h.len
            clear hcc hC hm HWB hmb hlc
            generalize C'.length = n' at *
            generalize l'.length = m' at *
            have hn3 : n' ≤ 256 := by omega
            obtain ⟨k0, k1, k2⟩ := HB.out wc (Nw.refl _)
            go_wp2_with fail
            refine ((HSN _ (Nw.refl _)).out).mono ?_
            rintro e w8 ⟨g1, cc1, D1, rfl, -, ho1, hB1, n8⟩
            have R1 := Lib.hid (rdn_own_at (HBL.out _ hB1) ho1)
            clear k0 k1 k2 ho1
            obtain ⟨k0, k1, k2⟩ := HB.out _ n8
            go_wp2_with fail
            refine ((HSE _ n8).out).mono ?_
            rintro e w9 ⟨Ao, co, O1, D2, rfl, hr2, hB2, hO, n9⟩
            have R2 := Lib.hid hr2
            have R1b := Lib.hid (fun V (hV : Nw w9 V) => R1.out V (n9.trans hV))
            have n9c := n8.trans n9
            clear k0 k1 k2 hr2 R1 n8 n9
            obtain ⟨k0, k1, k2⟩ := HB.out _ n9c
            go_wp2_with fail
            refine ((HMS _ n9c).out).mono ?_
            rintro e w10 ⟨rfl, n10⟩
            have R1 := Lib.hid (fun V (hV : Nw w10 V) => R1b.out V (n10.trans hV))
            have R2b := Lib.hid (fun V (hV : Nw w10 V) => R2.out V (n10.trans hV))
            have n10c := n9c.trans n10
            clear k0 k1 k2 R1b R2 n9c n10
            obtain ⟨k0, k1, k2⟩ := HB.out _ n10c
            go_wp2_with fail
            refine ((HRF _ n10c).out).mono ?_
            rintro e w11 ⟨g3, cc3, D, rfl, hr3, hB3, n11⟩
            obtain rfl := hB1.unique hB3
            obtain rfl := hB2.unique hB1
            have RD := Lib.hid (fun V (hV : Nw w11 V) => R1.out V (n11.trans hV))
            have RO := Lib.hid (fun V (hV : Nw w11 V) => R2b.out V (n11.trans hV))
            have RW := Lib.hid hr3
            have HOR := Lib.hid hO
            have HLEN := Lib.hid (HBL.out _ hB1)
            have HTOP : Hid (∀ c : Int, 0 ≤ c → c < D2.length → at0 D2 c ≤ inf) := fun c h0 h1 => hB1.stable.top c h0 (by rw [← hB1.len]; exact h1)
            have HNW := Lib.hid (HWC.out _ (n10c.trans n11))
            clear k0 k1 k2 R1 R2b hr3 hB1 hB2 hB3 hO HBL HB HSN HSE HMS HRF HWC n10c n11
            have HST0 : Hid (OrdAt w11 w11 (.slice none 0 0) D2 0 []) := ⟨OwnN.nil _, Ord.nil _, fun _ => rfl⟩
            go_wp2_with fail
            go_loopg [20, 21] n' (fun gh x20 x21 wr => ∃ (k : Nat) (O : List Int), k ≤ n' ∧ gh + k = n' ∧ x21 = .int .i64 (k : Int) ∧ Hid (OrdAt w11 wr x20 D2 k O))
            case atStart => exact ⟨0, [], Nat.zero_le _, by omega, rfl, HST0⟩
            case round =>
              clear HST0
              obtain ⟨k, O, hk, hgk, rfl, hI⟩ := hrel
              obtain ⟨A5, c5, rfl, hA5, -⟩ := hI.out.own.2.1.slice
              by_cases hlt : k < n'
              · have j1 : (k : Int) < n' := by omega
                clear hA5
                have hol := hI.out.ord.len
                go_upto_block 2 with fail
                go_cut [22] (fun x22 wx => ∃ u : Nat, x22 = .int .i64 (u : Int) ∧ u ≤ O.length ∧ Hid (OrdAt w11 wx (.slice A5 O.length c5) D2 k O) ∧ Hid (∀ j x, j < u → O[j]? = some x → at0 D2 x ≤ at0 D2 (k : Int)) ∧ Hid (∀ x, O[u]? = some x → at0 D2 (k : Int) < at0 D2 x))
                case first =>
                  clear HTO RD RO HOR HTOP
                  go_wp2_with fail
                  go_loopg [22] O.length (fun gh x22 wr => ∃ u : Nat, u ≤ O.length ∧ gh + u = O.length ∧ x22 = .int .i64 (u : Int) ∧ Hid (OrdAt w11 wr (.slice A5 O.length c5) D2 k O) ∧ Hid (∀ j x, j < u → O[j]? = some x → at0 D2 x ≤ at0 D2 (k : Int)))
                  case atStart => exact ⟨0, Nat.zero_le _, by omega, rfl, hI, fun j x h => by omega⟩
                  case round =>
                    clear hI
                    obtain ⟨u, hu, hgu, rfl, hI, hL⟩ := hrel
                    have HIq : Hid (∀ q, OrdAt w11 (wr.drewN q) (.slice A5 O.length c5) D2 k O) := fun q => hI.out.drewN q
                    by_cases hul : u < O.length
                    · have hx : O[u]? = some O[u] := List.getElem?_eq_getElem hul
                      generalize O[u] = x at hx
                      obtain ⟨x0, x1⟩ := hI.out.ord.rng x (List.mem_of_getElem? hx)
                      obtain ⟨A, c, he, hA, -⟩ := hI.out.own.2.1.slice
                      injection he with he1 he2 he3
                      subst he1
                      obtain ⟨ob, rfl⟩ := hA (by omega)
                      have cu : wr.cell? ⟨ob, u, none⟩ = some (.int .i64 x) := hI.out.own.2.1.cells (g := ob) rfl _ _ (by rw [List.getElem?_map, hx]; rfl)
                      have cx := want_at (RW.out wr hI.out.own.1) (k := x.toNat) (by rw [HLEN.out]; omega)
                      rw [Int.toNat_of_nonneg x0] at cx
                      have ck := want_at (RW.out wr hI.out.own.1) (k := k) (by rw [HLEN.out]; omega)
                      have u1 : (u : Int) < O.length := by omega
                      have x2 : x < n' := by omega
                      by_cases hle : at0 D2 x ≤ at0 D2 (k : Int)
                      · have HL2 : Hid (∀ j x, j < u + 1 → O[j]? = some x → at0 D2 x ≤ at0 D2 (k : Int)) := fun j y hj hy => by
                          by_cases e : j = u
                          · subst e; rw [hx] at hy; injection hy with hy; subst hy; exact hle
                          · exact hL.out j y (by omega) hy
                        clear hL hI hx RW
                        generalize at0 D2 x = dx at *
                        generalize hdk : at0 D2 (k : Int) = dk at *
                        have HDK := Lib.hid hdk
                        clear hdk he2 he3
                        go_wp2_with fail
                        go_quiet (fail)
                        go_wp2
                        go_roundg (gk - 1)
                        case measure => omega
                        case rel => exact ⟨u + 1, by omega, by omega, by go_num, HIq.out nq, HL2⟩
                      · have HG2 : Hid (∀ y, O[u]? = some y → at0 D2 (k : Int) < at0 D2 y) := fun y hy => by rw [hx] at hy; injection hy with hy; subst hy; omega
                        have hdd : decide (at0 D2 x ≤ at0 D2 (k : Int)) = false := by simpa using hle
                        clear hI hx RW
                        generalize at0 D2 x = dx at *
                        generalize hdk : at0 D2 (k : Int) = dk at *
                        have HDK := Lib.hid hdk
                        clear hdk he2 he3
                        go_wp2_with fail
                        go_quiet (fail)
                        go_wp2_with fail
                        go_meet
                        exact ⟨u, rfl, hu, HIq.out nq, hL, HG2⟩
                    · obtain rfl : u = O.length := by omega
                      have HG2 : Hid (∀ y, O[O.length]? = some y → at0 D2 (k : Int) < at0 D2 y) := fun y hy => by
                        rw [List.getElem?_eq_none (Nat.le_refl _)] at hy; simp at hy
                      have u1 : ¬ (O.length : Int) < O.length := by omega
                      have u2 : decide ((O.length : Int) < O.length) = false := by simp
                      clear hI RW
                      go_wp2_with fail
                      go_quiet (fail)
                      go_wp2_with fail
                      go_meet
                      exact ⟨O.length, rfl, Nat.le_refl _, HIq.out nq, hL, HG2⟩
                case rest =>
                  obtain ⟨u, rfl, hu, hI, hL, hG⟩ := hcut
                  have ck := want_at (RW.out wc hI.out.own.1) (k := k) (by rw [HLEN.out]; omega)
                  by_cases hd : at0 D2 (k : Int) = inf
                  · have HN := Lib.hid (hI.out.skip hd)
                    have hd2 : ¬ at0 D2 (k : Int) < 1099511627776 := by rw [hd]; decide
                    clear hI hL hG hd RW HTOP RD RO HOR HTO
                    generalize at0 D2 (k : Int) = dk at *
                    go_wp2_with fail
                    go_roundg (gk - 1)
                    case measure => omega
                    case rel => exact ⟨k + 1, O, by omega, by omega, by go_num, HN⟩
                  · have hd2 : at0 D2 (k : Int) < 1099511627776 := by
                      have := HTOP.out (k : Int) (by omega) (by rw [HLEN.out]; omega)
                      unfold inf at this hd; omega
                    have HNX : Hid (∀ x3 v3, OwnN wc x3 v3 ((([] ++ O.take u) ++ [(k : Int)]) ++ O.drop u) → OrdAt w11 x3 v3 D2 (k + 1) (O.take u ++ (k : Int) :: O.drop u)) := fun x3 v3 h => ⟨by
                      have := h.base hI.out.own.1
                      simpa using this, hI.out.ord.ins hd u hu hL.out hG.out, fun e => by simp at e⟩
                    have HOL : Hid ((O.take u ++ (k : Int) :: O.drop u).length ≤ n') := Lib.hid (by
                      have h3 := hI.out.ord.ins hd u hu hL.out hG.out
                      have := h3.len; omega)
                    cases hO : O with
                    | nil =>
                      subst hO
                      obtain rfl : u = 0 := by simpa using hu
                      have hnil := hI.out.isnil rfl
                      injection hnil with e1 e2 e3
                      subst e1; subst e3
                      have HT1 : Hid (∀ V : World, Nw wc V → RdV V none 0 (([] : List Int).map (Value.int .i64))) := fun V _ => RdV.nil V none
                      have HL1 : Hid (([] : List Int).length = 0) := rfl
                      have HL2 : Hid (([] : List Int).length = 0) := rfl
                      have HT2 := HT1
                      clear hI hL hG hd RW HTOP RD RO HOR HTO e2
                      generalize at0 D2 (k : Int) = dk at *
                      go_upto_region 20 with fail
                      go_region_law (first
                        | (refine step_ints rfl (.tmp 118) (.tmp 121) rfl (xs := []) (by first | exact OwnN.new (Nw.refl _) | exact OwnN.drew (OwnN.new (Nw.refl _)) | exact OwnN.alloc (OwnN.new (Nw.refl _)) _ | exact OwnN.drew (OwnN.alloc (OwnN.new (Nw.refl _)) _) | exact OwnN.new (Nw.alloc _ _) | exact OwnN.drew (OwnN.new (Nw.alloc _ _))) (A := none) (m := 0) (c := 0) (ys := ([] : List Int)) (HT1.out _) (by simp [Act.eval, Act.put]) (by simp [Act.eval, Act.put]) HL1.out (by have a1 := HL1.out; simp only [List.length_append, List.length_nil, List.length_singleton, a1]; omega) ?_; intro v1 x1 o1 h1)
                        | (refine step_ints rfl (.tmp 122) (.tmp 124) rfl (v := v1) (by first | exact o1 | exact OwnN.alloc o1 _ | exact OwnN.drew o1 | exact OwnN.drew (OwnN.alloc o1 _)) (ys := [(k : Int)]) (fun _ => rdv_one (by first | exact cell_newn _ _ _ 0 _ rfl | exact grown_cell h1 (cell_newn _ _ _ 0 _ rfl) (by simp [Value.ownBlock]) | exact grown_cell h1 ((Nw.alloc _ _).cell (cell_newn _ _ _ 0 _ rfl)) (by simp [Value.ownBlock]))) (by simp [Act.eval, Act.put]) (by simp [Act.eval, Act.put]; rfl) rfl (by have a1 := HL1.out; simp only [List.length_append, List.length_nil, List.length_singleton, a1]; omega) ?_; intro v2 x2 o2 h2)
                        | (refine step_ints rfl (.tmp 125) (.tmp 128) rfl (v := v2) (by first | exact o2 | exact OwnN.drew o2) (A := none) (m := 0) (c := 0) (ys := ([] : List Int)) (HT2.out _) (by simp [Act.eval, Act.put]) (by simp [Act.eval, Act.put]) HL2.out (by have a1 := HL1.out; have a2 := HL2.out; simp only [List.length_append, List.length_nil, List.length_singleton, a1, a2]; omega) ?_; intro v3 x3 o3 h3))
                      all_goals
                        have HN := Lib.hid (HNX.out _ _ o3)
                        clear HNX HT1 HT2 HL1 HL2 o1 o2 o3 h1 h2 h3
                        go_wp2
                        go_roundg (gk - 1)
                        case measure => omega
                        case rel => exact ⟨k + 1, _, by omega, by omega, by go_num, HN⟩
                    | cons y0 O0 =>
                      rw [← hO]
                      obtain ⟨Ax, cx, he, hA, -, -, hcx, -⟩ := hI.out.own.2.1.slice
                      injection he with he1 he2 he3
                      subst he1; subst he3
                      obtain ⟨ob, rfl⟩ := hA (by rw [hO]; simp)
                      have hro : RdN wc .i64 (some ⟨ob, 0, none⟩) O := by
                        obtain ⟨A', c', he, hr⟩ := hI.out.own.rd
                        injection he with e1 e2 e3
                        subst e1; exact hr
                      have HT1 : Hid (∀ V, Nw wc V → RdV V (some ⟨ob, 0, none⟩) u ((O.take u).map (Value.int .i64))) := fun V hV => rdv_cut (hro.nw hV) (fun j y hj => by
                        rw [List.getElem?_take] at hj
                        split at hj
                        · rw [Nat.zero_add]; exact hj
                        · simp at hj) u
                      have HT2 : Hid (∀ V, Nw wc V → RdV V (some ⟨ob, u, none⟩) (O.length - u) ((O.drop u).map (Value.int .i64))) := fun V hV => rdv_cut (hro.nw hV) (fun j y hj => by
                        rw [List.getElem?_drop] at hj; exact hj) _
                      have HL1 : Hid ((O.take u).length = u) := Lib.hid (by rw [List.length_take]; omega)
                      have HL2 : Hid ((O.drop u).length = O.length - u) := Lib.hid (by rw [List.length_drop])
                      have hu2 : (u : Int) ≤ c5 := by omega
                      have hu3 : (u : Int) ≤ O.length := by omega
                      by_cases hcu : c5 = u
                      · have e3 : O.length = u := by omega
                        clear HT2 HL2
                        have HT2 : Hid (∀ V, Nw wc V → RdV V (some ⟨ob, 0, none⟩) 0 ((O.drop u).map (Value.int .i64))) := fun V _ => by
                          rw [List.drop_eq_nil_of_le (by omega)]; exact RdV.nil V _
                        have HL2 : Hid ((O.drop u).length = 0) := Lib.hid (by rw [List.length_drop]; omega)
                        subst hcu
                        clear hI hL hG hd RW HTOP RD RO HOR HTO he2 hro hO hA
                        generalize at0 D2 (k : Int) = dk at *
                        generalize O.length = ol at *
                        subst e3
                        go_upto_region 20 with fail
                        go_region_law (first
                          | (refine step_ints rfl (.tmp 118) (.tmp 121) rfl (xs := []) (by first | exact OwnN.new (Nw.refl _) | exact OwnN.drew (OwnN.new (Nw.refl _)) | exact OwnN.alloc (OwnN.new (Nw.refl _)) _ | exact OwnN.drew (OwnN.alloc (OwnN.new (Nw.refl _)) _) | exact OwnN.new (Nw.alloc _ _) | exact OwnN.drew (OwnN.new (Nw.alloc _ _))) (A := some ⟨ob, 0, none⟩) (m := ol) (c := ol) (ys := O.take ol) (HT1.out _) (by simp [Act.eval, Act.put]) (by simp [Act.eval, Act.put]) HL1.out (by have a1 := HL1.out; simp only [List.length_append, List.length_nil, List.length_singleton, a1]; omega) ?_; intro v1 x1 o1 h1)
                          | (refine step_ints rfl (.tmp 122) (.tmp 124) rfl (v := v1) (by first | exact o1 | exact OwnN.alloc o1 _ | exact OwnN.drew o1 | exact OwnN.drew (OwnN.alloc o1 _)) (ys := [(k : Int)]) (fun _ => rdv_one (by first | exact cell_newn _ _ _ 0 _ rfl | exact grown_cell h1 (cell_newn _ _ _ 0 _ rfl) (by simp [Value.ownBlock]) | exact grown_cell h1 ((Nw.alloc _ _).cell (cell_newn _ _ _ 0 _ rfl)) (by simp [Value.ownBlock]))) (by simp [Act.eval, Act.put]) (by simp [Act.eval, Act.put]; rfl) rfl (by have a1 := HL1.out; simp only [List.length_append, List.length_nil, List.length_singleton, a1]; omega) ?_; intro v2 x2 o2 h2)
                          | (refine step_ints rfl (.tmp 125) (.tmp 128) rfl (v := v2) (by first | exact o2 | exact OwnN.drew o2) (A := some ⟨ob, 0, none⟩) (m := 0) (c := 0) (ys := O.drop ol) (HT2.out _) (by simp [Act.eval, Act.put]) (by simp [Act.eval, Act.put]) HL2.out (by have a1 := HL1.out; have a2 := HL2.out; simp only [List.length_append, List.length_nil, List.length_singleton, a1, a2]; omega) ?_; intro v3 x3 o3 h3))
                        all_goals
                          have HN := Lib.hid (HNX.out _ _ o3)
                          clear HNX HT1 HT2 HL1 HL2 o1 o2 o3 h1 h2 h3
                          go_wp2
                          go_roundg (gk - 1)
                          case measure => omega
                          case rel => exact ⟨k + 1, _, by omega, by omega, by go_num, HN⟩
                      · have hcu2 : ¬ u = c5 := fun e => hcu e.symm
                        clear hI hL hG hd RW HTOP RD RO HOR HTO he2 hro hO hA
                        generalize at0 D2 (k : Int) = dk at *
                        generalize O.length = ol at *
                        go_upto_region 20 with fail
                        go_region_law (first
                          | (refine step_ints rfl (.tmp 118) (.tmp 121) rfl (xs := []) (by first | exact OwnN.new (Nw.refl _) | exact OwnN.drew (OwnN.new (Nw.refl _)) | exact OwnN.alloc (OwnN.new (Nw.refl _)) _ | exact OwnN.drew (OwnN.alloc (OwnN.new (Nw.refl _)) _) | exact OwnN.new (Nw.alloc _ _) | exact OwnN.drew (OwnN.new (Nw.alloc _ _))) (A := some ⟨ob, 0, none⟩) (m := u) (c := c5) (ys := O.take u) (HT1.out _) (by simp [Act.eval, Act.put]) (by simp [Act.eval, Act.put]) HL1.out (by have a1 := HL1.out; simp only [List.length_append, List.length_nil, List.length_singleton, a1]; omega) ?_; intro v1 x1 o1 h1)
                          | (refine step_ints rfl (.tmp 122) (.tmp 124) rfl (v := v1) (by first | exact o1 | exact OwnN.alloc o1 _ | exact OwnN.drew o1 | exact OwnN.drew (OwnN.alloc o1 _)) (ys := [(k : Int)]) (fun _ => rdv_one (by first | exact cell_newn _ _ _ 0 _ rfl | exact grown_cell h1 (cell_newn _ _ _ 0 _ rfl) (by simp [Value.ownBlock]) | exact grown_cell h1 ((Nw.alloc _ _).cell (cell_newn _ _ _ 0 _ rfl)) (by simp [Value.ownBlock]))) (by simp [Act.eval, Act.put]) (by simp [Act.eval, Act.put]; rfl) rfl (by have a1 := HL1.out; simp only [List.length_append, List.length_nil, List.length_singleton, a1]; omega) ?_; intro v2 x2 o2 h2)
                          | (refine step_ints rfl (.tmp 125) (.tmp 128) rfl (v := v2) (by first | exact o2 | exact OwnN.drew o2) (A := some ⟨ob, u, none⟩) (m := ol - u) (c := c5 - u) (ys := O.drop u) (HT2.out _) (by simp [Act.eval, Act.put]) (by simp [Act.eval, Act.put]) HL2.out (by have a1 := HL1.out; have a2 := HL2.out; simp only [List.length_append, List.length_nil, List.length_singleton, a1, a2]; omega) ?_; intro v3 x3 o3 h3))
                        all_goals
                          have HN := Lib.hid (HNX.out _ _ o3)
                          clear HNX HT1 HT2 HL1 HL2 o1 o2 o3 h1 h2 h3
                          go_wp2
                          go_roundg (gk - 1)
                          case measure => omega
                          case rel => exact ⟨k + 1, _, by omega, by omega, by go_num, HN⟩
              · obtain rfl : k = n' := by omega
                have j1 : ¬ (k : Int) < k := by omega
                obtain rfl := HOR.out.unique hI.out.ord
                obtain ⟨A', c', he, hro⟩ := hI.out.own.rd
                injection he with e1 e2 e3
                subst e1
                have hol := hI.out.ord.len
                have HI1 := fun V (hV : Nw wr V) => Lib.hid (ints_len (some ⟨g1, 0, none⟩) (some ⟨g3, 0, none⟩) D2 D2 cc1 cc3 k k V (RD.out V (hI.out.own.1.trans hV)) (RW.out V (hI.out.own.1.trans hV)) (by omega) HLEN.out.symm HLEN.out.symm rfl)
                have HI2 := fun V (hV : Nw wr V) => Lib.hid (ints_len Ao A5 O1 O1 co c5 O1.length O1.length V (RO.out V (hI.out.own.1.trans hV)) (hro.nw hV) (by omega) rfl rfl rfl)
                have HT2 := Lib.hid (told_at wr wr (Nw.refl wr))
                have HWR := Lib.hid (HNW.out.trans hI.out.own.1)
                clear HTO RD RO RW HOR HTOP hI hro e2 e3 hA5 HLEN HNW
                generalize O1.length = ol at *
                go_wp2_with fail
                refine (HT2.out).mono ?_
                rintro e w12 ⟨rfl, n12⟩
                clear HT2
                go_wp2_with fail
                refine ((HI1 _ n12).out).mono ?_
                rintro e w13 ⟨rfl, n13⟩
                have n13c := n12.trans n13
                clear HI1 n12 n13
                go_wp2_with fail
                refine ((HI2 _ n13c).out).mono ?_
                rintro e w14 ⟨rfl, n14⟩
                have HF := HWR.out.trans (n13c.trans n14)
                clear HI2 n13c n14 HWR
                go_wp2
                first | exact ⟨rfl, HF⟩ | (go_ret; exact ⟨rfl, HF⟩)
end Stb
end Go.Proofs.Ytjnjppikhdfomaa
