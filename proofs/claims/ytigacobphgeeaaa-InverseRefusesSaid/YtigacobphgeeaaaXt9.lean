/- The walk of InverseRefuses. -/
import Derived.Test.YtigacobphgeeaaaXs9
set_option linter.unusedVariables false
namespace Lev
theorem ref_inv {f : Fct} {n : Nat} (hok : f.ok = true) (hn : f.C.toNat = n) :
    (invE f = 7 ∧ singB f n = true ∧ rowsS f = [] ∧ condE f = 7 ∧ condV f = 0) ∨ (invE f = 2 ∧ singB f n = false ∧ rowsS f = [] ∧ condE f = 2 ∧ condV f = 0) ∨ (invE f = 0 ∧ singB f n = false ∧ condE f = 0) ∨ (invE f = 0 ∧ singB f n = false ∧ condE f = 2 ∧ condV f = 0) := by
  have hE : invE f = if singB f n = true then 7 else if wildB (gS f) n = true then 2 else 0 := by
    unfold invE
    rw [if_neg (by rw [hok]; decide), hn]
  have hc : condE f = if invE f ≠ 0 then invE f else if wildS (condC f) = true then 2 else 0 := rfl
  have hv : condV f = if condE f = 0 then condC f else 0 := rfl
  have hr : rowsS f = if invE f = 0 then rowsL (wS (gS f)) f.C.toNat f.C.toNat else [] := rfl
  cases hs : singB f n
  · rw [hs, if_neg (by decide)] at hE
    cases hw : wildB (gS f) n
    · rw [hw, if_neg (by decide)] at hE
      rw [hE, if_neg (by decide)] at hc
      cases hcw : wildS (condC f)
      · rw [hcw, if_neg (by decide)] at hc
        exact .inr (.inr (.inl ⟨hE, rfl, hc⟩))
      · rw [hcw, if_pos rfl] at hc
        rw [hc, if_neg (by decide)] at hv
        exact .inr (.inr (.inr ⟨hE, rfl, hc, hv⟩))
    · rw [hw, if_pos rfl] at hE
      rw [hE, if_pos (by decide)] at hc
      rw [hc, if_neg (by decide)] at hv
      rw [hE, if_neg (by decide)] at hr
      exact .inr (.inl ⟨hE, rfl, hr, hc, hv⟩)
  · rw [hs, if_pos rfl] at hE
    rw [hE, if_pos (by decide)] at hc
    rw [hc, if_neg (by decide)] at hv
    rw [hE, if_neg (by decide)] at hr
    exact .inl ⟨hE, rfl, hr, hc, hv⟩
theorem ref_err {f : Fct} (hok : f.ok = true) :
    (decide (f.R ≤ f.C) = true ∧ errE f = 5 ∧ errL f = []) ∨ (decide (f.R ≤ f.C) = false ∧ invE f ≠ 0 ∧ errE f = invE f ∧ errL f = []) ∨ (decide (f.R ≤ f.C) = false ∧ invE f = 0 ∧ errE f = 0) ∨ (decide (f.R ≤ f.C) = false ∧ invE f = 0 ∧ errE f = 2 ∧ errL f = []) := by
  have he : errE f = if stE f ≠ 0 then stE f else if invE f ≠ 0 then invE f else if errW f f.C.toNat = true then 2 else 0 := rfl
  have hl : errL f = if errE f = 0 then (List.range f.C.toNat).map (errF f f.C.toNat) else [] := rfl
  by_cases hf : f.R ≤ f.C
  · have hs : stE f = 5 := stE_few hok (by omega)
    rw [hs, if_pos (by decide)] at he
    rw [he, if_neg (by decide)] at hl
    exact .inl ⟨decide_eq_true hf, he, hl⟩
  · have hs : stE f = 0 := stE_ok hok (by omega)
    rw [hs, if_neg (by decide)] at he
    by_cases h1 : invE f = 0
    · rw [h1, if_neg (by decide)] at he
      cases hw : errW f f.C.toNat
      · rw [hw, if_neg (by decide)] at he
        exact .inr (.inr (.inl ⟨decide_eq_false hf, h1, he⟩))
      · rw [hw, if_pos rfl] at he
        rw [he, if_neg (by decide)] at hl
        exact .inr (.inr (.inr ⟨decide_eq_false hf, h1, he, hl⟩))
    · rw [if_pos h1] at he
      rw [he, if_neg h1] at hl
      exact .inr (.inl ⟨decide_eq_false hf, h1, he, hl⟩)
theorem ref_bad9 {f : Fct} (hok : f.ok = false) : invE f = 1 ∧ rowsS f = [] ∧ oneE f = 1 ∧ oneV f = 0 ∧ condE f = 1 ∧ condV f = 0 ∧ errE f = 1 ∧ errL f = [] := by
  have h1 : invE f = 1 := by unfold invE; rw [if_pos hok]
  have h2 : rowsS f = [] := by unfold rowsS; rw [h1, if_neg (by decide)]
  have h3 : condE f = 1 := by unfold condE; rw [h1, if_pos (by decide)]
  have h4 : condV f = 0 := by unfold condV; rw [h3, if_neg (by decide)]
  have h5 : errE f = 1 := by unfold errE; rw [stE_no hok, if_pos (by decide)]
  have h6 : errL f = [] := by unfold errL; rw [h5, if_neg (by decide)]
  exact ⟨h1, h2, by unfold oneE; rw [hok]; rfl, by unfold oneV; rw [hok]; rfl, h3, h4, h5, h6⟩
theorem ref_mix {E1 E3 E4 : Int} {sg fw : Bool} {Lw L : List Nat} {V3 : Nat}
    (hA : (E1 = 7 ∧ sg = true ∧ Lw = [] ∧ E3 = 7 ∧ V3 = 0) ∨ (E1 = 2 ∧ sg = false ∧ Lw = [] ∧ E3 = 2 ∧ V3 = 0) ∨ (E1 = 0 ∧ sg = false ∧ E3 = 0) ∨ (E1 = 0 ∧ sg = false ∧ E3 = 2 ∧ V3 = 0))
    (hB : (fw = true ∧ E4 = 5 ∧ L = []) ∨ (fw = false ∧ E1 ≠ 0 ∧ E4 = E1 ∧ L = []) ∨ (fw = false ∧ E1 = 0 ∧ E4 = 0) ∨ (fw = false ∧ E1 = 0 ∧ E4 = 2 ∧ L = [])) :
    (E1 = 7 ∧ sg = true ∧ Lw = [] ∧ E3 = 7 ∧ V3 = 0 ∧ fw = true ∧ E4 = 5 ∧ L = []) ∨ (E1 = 7 ∧ sg = true ∧ Lw = [] ∧ E3 = 7 ∧ V3 = 0 ∧ fw = false ∧ E4 = 7 ∧ L = []) ∨
          (E1 = 2 ∧ sg = false ∧ Lw = [] ∧ E3 = 2 ∧ V3 = 0 ∧ fw = true ∧ E4 = 5 ∧ L = []) ∨ (E1 = 2 ∧ sg = false ∧ Lw = [] ∧ E3 = 2 ∧ V3 = 0 ∧ fw = false ∧ E4 = 2 ∧ L = []) ∨
          (E1 = 0 ∧ sg = false ∧ Lw = Lw ∧ E3 = 0 ∧ V3 = V3 ∧ fw = true ∧ E4 = 5 ∧ L = []) ∨ (E1 = 0 ∧ sg = false ∧ Lw = Lw ∧ E3 = 0 ∧ V3 = V3 ∧ fw = false ∧ E4 = 0 ∧ L = L) ∨ (E1 = 0 ∧ sg = false ∧ Lw = Lw ∧ E3 = 0 ∧ V3 = V3 ∧ fw = false ∧ E4 = 2 ∧ L = []) ∨
          (E1 = 0 ∧ sg = false ∧ Lw = Lw ∧ E3 = 2 ∧ V3 = 0 ∧ fw = true ∧ E4 = 5 ∧ L = []) ∨ (E1 = 0 ∧ sg = false ∧ Lw = Lw ∧ E3 = 2 ∧ V3 = 0 ∧ fw = false ∧ E4 = 0 ∧ L = L) ∨ (E1 = 0 ∧ sg = false ∧ Lw = Lw ∧ E3 = 2 ∧ V3 = 0 ∧ fw = false ∧ E4 = 2 ∧ L = []) := by
  rcases hA with ⟨a1, a2, a3, a4, a5⟩ | ⟨a1, a2, a3, a4, a5⟩ | ⟨a1, a2, a4⟩ | ⟨a1, a2, a4, a5⟩ <;> rcases hB with ⟨b1, b2, b3⟩ | ⟨b1, b4, b2, b3⟩ | ⟨b1, b4, b2⟩ | ⟨b1, b4, b2, b3⟩ <;> simp_all
theorem xz0 : feq 0 0 = true := by decide
end Lev
namespace Go.Proofs.Ytigacobphgeeaaa
open Go.RowKit Go.Shelf Lev

attribute [local go_sem] run_store_float order_lt order_gt order_eq order_ne xz0

set_option maxRecDepth 100000 in
set_option maxHeartbeats 8000000 in
theorem inverseRefuses (f : Fct) (A : Option Addr) (c : Nat) (w : World) (hx : SlArg w A f.xs c) :
    Calls Try.prog 8 #[facV f.C A f.xs.length c f.R f.T] w fun e w' => e = .returned (.bool true) ∧ Below w.heap.size w w' := by
  have HLV := Lib.hid (fun W => live18 W)
  have k0 := ((Keep.start w).more hx).alloc #[.int .i64 f.C, .slice A f.xs.length c, .int .i64 f.R, .int .i64 f.T] 24
  have K0 := Lib.hid k0
  have hl63 : f.xs.length ≤ 9223372036854775807 := Nat.le_trans hx.cap hx.room
  have h1 := fun W h => Rows_any f A c W h
  have h3 := fun W h => One_any f A c W h
  have h5 := fun W h => Cond_any f A c W h
  have h7 := fun W h => Errors_any f A c W h
  have hck := fun W h => rcheck_any f.C A f.xs c f.R f.T W h
  by_cases h60 : (60 : Int) < (f.xs.length : Int)
  · unfold facV
    clear hx h1 h3 h5 h7 hck k0
    go_enter Try.func8, Try.ntmps8
    go_wp2_with fail
    refine (HLV.out _).mono ?_
    rintro e w1 ⟨rfl, hb⟩
    have HB := Lib.hid (K0.out.call hb).below
    clear hb
    go_wp2
    go_ret
    exact ⟨rfl, HB.out⟩
  · cases hok : f.ok
    · obtain ⟨e1, e2, e3, e4, e5, e6, e7, e8⟩ := ref_bad9 hok
      rw [show checkS f.C f.xs f.R f.T = false from hok] at hck
      rw [e1, e2] at h1
      rw [e3, e4] at h3
      rw [e5, e6] at h5
      rw [e7, e8] at h7
      unfold facV at h1 h3 h5 h7 hck ⊢
      have H1 := Lib.hid h1; have H3 := Lib.hid h3; have H5 := Lib.hid h5; have H7 := Lib.hid h7; have HCK := Lib.hid hck
      clear hx h1 h3 h5 h7 hck k0 e1 e2 e3 e4 e5 e6 e7 e8
      go_enter Try.func8, Try.ntmps8
      go_wp2_with fail
      refine (H1.out _ (K0.out.arg (.head _))).mono ?_
      rintro e w1 ⟨⟨v, rfl, A1, c1, rfl, _, _⟩, hb⟩
      have K1 := Lib.hid (K0.out.call hb)
      obtain ⟨r0, r1, r2, r3⟩ := (K1.out.box (.head _)).c4
      clear hb
      go_wp2_with fail
      refine (H3.out _ (K1.out.arg (.head _))).mono ?_
      rintro e w2 ⟨rfl, hb⟩
      have K2 := Lib.hid (K1.out.call hb)
      clear hb r0 r1 r2 r3
      obtain ⟨r0, r1, r2, r3⟩ := (K2.out.box (.head _)).c4
      go_wp2_with fail
      refine (H5.out _ (K2.out.arg (.head _))).mono ?_
      rintro e w3 ⟨rfl, hb⟩
      have K3 := Lib.hid (K2.out.call hb)
      clear hb r0 r1 r2 r3
      obtain ⟨r0, r1, r2, r3⟩ := (K3.out.box (.head _)).c4
      go_wp2_with fail
      refine (H7.out _ (K3.out.arg (.head _))).mono ?_
      rintro e w4 ⟨⟨v, rfl, A4, c4, rfl, _, _⟩, hb⟩
      have K4 := Lib.hid (K3.out.call hb)
      clear hb r0 r1 r2 r3
      obtain ⟨r0, r1, r2, r3⟩ := (K4.out.box (.head _)).c4
      go_wp2_with fail
      refine (HCK.out _ (K4.out.arg (.head _))).mono ?_
      rintro e w5 ⟨rfl, hb⟩
      have K5 := Lib.hid (K4.out.call hb)
      clear hb r0 r1 r2 r3
      go_wp2_with fail
      refine (HLV.out _).mono ?_
      rintro e w6 ⟨rfl, hb⟩
      have HB := Lib.hid (K5.out.call hb).below
      clear hb
      go_wp2
      go_ret
      exact ⟨rfl, HB.out⟩
    · have hc := ok_len hok
      obtain ⟨n, hn⟩ : ∃ n : Nat, f.C = (n : Int) := ⟨f.C.toNat, by omega⟩
      have hCn : f.C.toNat = n := by omega
      have hsi := fun W h => sing_any f A c W h hok n hn
      have e3 : oneE f = 0 := by unfold oneE; rw [if_pos hok]
      rw [show checkS f.C f.xs f.R f.T = true from hok] at hck
      rw [e3] at h3
      have hA := ref_inv hok hCn
      have hB := ref_err hok
      unfold facV at h1 h3 h5 h7 hck hsi ⊢
      generalize oneV f = V2 at *
      generalize rowsS f = Lw at *
      generalize errL f = L at *
      generalize condV f = V3 at *
      generalize singB f n = sg at *
      generalize invE f = E1 at *
      generalize condE f = E3 at *
      generalize errE f = E4 at *
      have hcb : -9223372036854775808 ≤ f.R ∧ f.R ≤ 9223372036854775807 := by omega
      clear hx k0 hc hok e3 hCn
      generalize hfw : decide (f.R ≤ f.C) = fw at *
      have hAB := ref_mix hA hB
      clear hA hB
      rcases hAB with ⟨a1, a2, a3, a4, a5, a6, a7, a8⟩ | ⟨a1, a2, a3, a4, a5, a6, a7, a8⟩ | ⟨a1, a2, a3, a4, a5, a6, a7, a8⟩ | ⟨a1, a2, a3, a4, a5, a6, a7, a8⟩ | ⟨a1, a2, a3, a4, a5, a6, a7, a8⟩ | ⟨a1, a2, a3, a4, a5, a6, a7, a8⟩ | ⟨a1, a2, a3, a4, a5, a6, a7, a8⟩ | ⟨a1, a2, a3, a4, a5, a6, a7, a8⟩ | ⟨a1, a2, a3, a4, a5, a6, a7, a8⟩ | ⟨a1, a2, a3, a4, a5, a6, a7, a8⟩
      all_goals
        rw [a1, a3] at h1
        rw [a4, a5] at h5
        rw [a7, a8] at h7
        rw [a2] at hsi
        rw [a6] at hfw
        have H1 := Lib.hid h1; have H3 := Lib.hid h3; have H5 := Lib.hid h5; have H7 := Lib.hid h7; have HCK := Lib.hid hck; have HSI := Lib.hid hsi
        have hll : L.length ≤ L.length := Nat.le_refl _
        clear h1 h3 h5 h7 hck hsi a1 a2 a3 a4 a5 a6 a7 a8 hn
        go_enter Try.func8, Try.ntmps8
        go_wp2_with fail
        refine (H1.out _ (K0.out.arg (.head _))).mono ?_
        rintro e w1 ⟨⟨v, rfl, A1, c1, rfl, _, _⟩, hb⟩
        have K1 := Lib.hid (K0.out.call hb)
        obtain ⟨r0, r1, r2, r3⟩ := (K1.out.box (.head _)).c4
        clear hb
        go_wp2_with fail
        refine (H3.out _ (K1.out.arg (.head _))).mono ?_
        rintro e w2 ⟨rfl, hb⟩
        have K2 := Lib.hid (K1.out.call hb)
        clear hb r0 r1 r2 r3
        obtain ⟨r0, r1, r2, r3⟩ := (K2.out.box (.head _)).c4
        go_wp2_with fail
        refine (H5.out _ (K2.out.arg (.head _))).mono ?_
        rintro e w3 ⟨rfl, hb⟩
        have K3 := Lib.hid (K2.out.call hb)
        clear hb r0 r1 r2 r3
        obtain ⟨r0, r1, r2, r3⟩ := (K3.out.box (.head _)).c4
        go_wp2_with fail
        refine (H7.out _ (K3.out.arg (.head _))).mono ?_
        rintro e w4 ⟨⟨v, rfl, A4, c4, rfl, _, _⟩, hb⟩
        have K4 := Lib.hid (K3.out.call hb)
        clear hb r0 r1 r2 r3
        obtain ⟨r0, r1, r2, r3⟩ := (K4.out.box (.head _)).c4
        go_wp2_with fail
        refine (HCK.out _ (K4.out.arg (.head _))).mono ?_
        rintro e w5 ⟨rfl, hb⟩
        have K5 := Lib.hid (K4.out.call hb)
        clear hb r0 r1 r2 r3
        obtain ⟨r0, r1, r2, r3⟩ := (K5.out.box (.head _)).c4
        go_wp2_with fail
        refine (HSI.out _ (K5.out.arg (.head _))).mono ?_
        rintro e w6 ⟨rfl, hb⟩
        have K6 := Lib.hid (K5.out.call hb)
        clear hb r0 r1 r2 r3
        go_wp2_with fail
        refine (HLV.out _).mono ?_
        rintro e w7 ⟨rfl, hb⟩
        have HB := Lib.hid (K6.out.call hb).below
        clear hb
        go_wp2
        go_ret
        exact ⟨rfl, HB.out⟩
end Go.Proofs.Ytigacobphgeeaaa
