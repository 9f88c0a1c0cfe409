/- The walk of FadeHalves. -/
import Derived.Test.YtlkgkgnkmjbnjaaOd
import Derived.Test.YtlkgkgnkmjbnjaaTe
namespace Go.Proofs.Ytlkgkgnkmjbnjaa
open Go.RowKit Go.Shelf Lev

set_option maxRecDepth 100000 in
set_option maxHeartbeats 4000000 in
theorem fadeHalves (f : Fct) (A : Option Addr) (c : Nat) (j k : Int) (w : World) (hx : SlArg w A f.xs c) (_hj : -9223372036854775808 ≤ j ∧ j ≤ 9223372036854775807) (_hk : -9223372036854775808 ≤ k ∧ k ≤ 9223372036854775807) :
    Calls Try.prog 11 #[facV f.C A f.xs.length c f.R f.T, .int .i64 j, .int .i64 k] w fun e w' => e = .returned (.bool true) ∧ Below w.heap.size w w' := by
  have hl63 : f.xs.length ≤ 9223372036854775807 := Nat.le_trans hx.cap hx.room
  have K0 := ((Keep.start w).more hx).alloc #[.int .i64 f.C, .slice A f.xs.length c, .int .i64 f.R, .int .i64 f.T] 24
  have HX := Lib.hid hx
  have HCK := Lib.hid (fun W hW => check_any f.C A f.xs c f.R f.T W hW)
  clear hx
  unfold facV at HCK
  unfold facV
  by_cases h60 : (60 : Int) < (f.xs.length : Int)
  · go_enter Try.func11, Try.ntmps11
    go_wp2_with fail
    refine (live12 _).mono ?_
    rintro e w' ⟨rfl, hb⟩
    have HB := Lib.hid (Below.add K0.below hb)
    clear hb
    go_wp2
    go_ret
    exact ⟨rfl, HB.out⟩
  · by_cases hgood : f.ok = true ∧ 0 ≤ j ∧ 0 ≤ k ∧ j ≤ 20 ∧ k ≤ 20 ∧ j + k ≤ 20 ∧ f.T ≤ 4094
    · obtain ⟨hok, hj0, hk0, hj20, hk20, hjk, hT⟩ := hgood
      rw [show checkS f.C f.xs f.R f.T = true from hok] at HCK
      have hol := ok_len hok
      have hT0 := hol.2.2.2.2.2.1
      obtain ⟨a, rfl⟩ := Int.eq_ofNat_of_zero_le hj0
      obtain ⟨b, rfl⟩ := Int.eq_ofNat_of_zero_le hk0
      have HOK := Lib.hid hok
      have hsm : ∀ x ∈ f.xs, x < 18446744073709551616 ∧ fin x := fun x hm => ⟨HX.out.reads.1 x hm, small_fin (check_small' (show checkS f.C f.xs f.R f.T = true from hok) hm)⟩
      have HSM := Lib.hid hsm
      have hab : a + b ≤ 20 := by omega
      have he : (-(a : Int) - (b : Int)) = -((a + b : Nat) : Int) := by omega
      have hsc : ∀ x, x < 18446744073709551616 → ∀ W, Calls Try.prog 39 #[.float .f64 x, .int .i64 (-(a : Int) - (b : Int))] W fun e w' => e = .returned (.tuple #[.float .f64 (scaleF x (-((a + b : Nat) : Int))), .bool (scaleB x (-((a + b : Nat) : Int)))]) ∧ W = w' :=
        fun x hx W => (scale_any x (-(a : Int) - (b : Int)) hx W).mono fun e w' ⟨h1, h2⟩ => ⟨by rw [h1, he], h2⟩
      have HSC := Lib.hid hsc
      have hpos : 0 < f.xs.length := by
        have h4 := st_all (f.C + 1).toNat
        have h5 : 2 ≤ (f.C + 1).toNat := by omega
        have h6 := Nat.mul_le_mul h5 h5
        have := hol.2.2.1
        omega
      have HE := Lib.hid he
      have hp1 : ∀ W, Calls Try.prog 37 #[.int .i64 (-(a : Int))] W fun e w' => e = .returned (.float .f64 (pwB a)) ∧ W = w' := fun W => pow_any (-(a : Int)) W
      have hp2 : ∀ W, Calls Try.prog 37 #[.int .i64 (-(b : Int))] W fun e w' => e = .returned (.float .f64 (pwB b)) ∧ W = w' := fun W => pow_any (-(b : Int)) W
      have hp3 : ∀ W, Calls Try.prog 37 #[.int .i64 (-(a : Int) - (b : Int))] W fun e w' => e = .returned (.float .f64 (pwB (a + b))) ∧ W = w' := fun W => (pow_any (-(a : Int) - (b : Int)) W).mono fun e w' ⟨h1, h2⟩ => ⟨by rw [h1, he]; rfl, h2⟩
      have w1' : IntKind.i64.wrap (-(a : Int)) = -(a : Int) := by rw [IntKind.wrap_i64]; omega
      have w2' : IntKind.i64.wrap (-(b : Int)) = -(b : Int) := by rw [IntKind.wrap_i64]; omega
      have w3' : IntKind.i64.wrap (-(a : Int) - (b : Int)) = -(a : Int) - (b : Int) := by rw [IntKind.wrap_i64]; omega
      have e1 : Value.int .i64 (IntKind.i64.wrap (-(a : Int))) = .int .i64 (-(a : Int)) := by rw [w1']
      have e2 : Value.int .i64 (IntKind.i64.wrap (-(b : Int))) = .int .i64 (-(b : Int)) := by rw [w2']
      have e3 : Value.int .i64 (IntKind.i64.wrap (IntKind.i64.wrap (-(a : Int)) - (b : Int))) = .int .i64 (-(a : Int) - (b : Int)) := by rw [w1', w3']
      rw [← e1] at hp1; rw [← e2] at hp2; rw [← e3] at hp3
      clear e1 e2 e3 w1' w2' w3'
      have HJ := Lib.hid hp1; have HK := Lib.hid hp2
      have HP3 := Lib.hid hp3
      clear hok hol hsm hsc he hp1 hp2 hp3
      go_enter Try.func11, Try.ntmps11
      go_wp2_with fail
      refine named ?_
      intro W hW
      rw [← hW] at K0
      clear hW
      refine (HCK.out _ (K0.arg (.head _))).mono ?_
      rintro e w1 ⟨rfl, hb1⟩
      have K1 := K0.call hb1
      clear K0 hb1
      obtain ⟨r0, r1, r2, r3⟩ := (K1.box (.head _)).c4
      obtain ⟨bx, ox, hA, hbx, hcx⟩ := (K1.arg (.head _)).reads.2 hpos
      subst hA
      have HCX := Lib.hid hcx
      clear hcx
      go_wp2_with fail
      go_loop [7, 8, 9] (fun i _ _ => ∃ m : Nat, i = .int .i64 (m : Int) ∧ m ≤ f.xs.length ∧ ∀ x ∈ f.xs.take m, scaleB x (-((a + b : Nat) : Int)) = true) (fun i _ _ => f.xs.length - (intOf i).toNat)
      case atStart => exact ⟨0, rfl, Nat.zero_le _, fun x hx => absurd hx (by simp)⟩
      case round =>
        obtain ⟨m, rfl, hm, hall⟩ := hrel
        have HALL := Lib.hid hall
        clear hall
        by_cases hlt : (m : Int) < (f.xs.length : Int)
        · have hcj := HCX.out m (by omega)
          have hv : f.xs[m]?.getD 0 < 18446744073709551616 := HX.out.reads.lt m
          have hs := fun W => HSC.out _ hv W
          have htk : f.xs.take (m + 1) = f.xs.take m ++ [f.xs[m]?.getD 0] := by
            rw [List.take_succ_eq_append_getElem (by omega), List.getElem?_eq_getElem (by omega)]; rfl
          have HTK := Lib.hid htk
          clear hv htk
          generalize f.xs[m]?.getD 0 = x at *
          have HS := Lib.hid hs
          clear hs
          cases hsb : scaleB x (-((a + b : Nat) : Int))
          · rw [hsb] at HS
            go_wp2_with fail
            refine (HS.out _).mono ?_
            rintro e w' ⟨rfl, rfl⟩
            go_wp2_with fail
            refine (live12 _).mono ?_
            rintro e w' ⟨rfl, hb⟩
            have HB := Lib.hid (Below.add K1.below hb)
            clear hb
            go_wp2
            go_ret
            exact ⟨rfl, HB.out⟩
          · rw [hsb] at HS
            have HSB := Lib.hid hsb
            clear hsb
            go_wp2_with fail
            refine (HS.out _).mono ?_
            rintro e w' ⟨rfl, rfl⟩
            go_wp2
            go_round
            case rel =>
              refine ⟨m + 1, by go_num, by omega, fun y hy => ?_⟩
              rw [HTK.out] at hy
              rcases List.mem_append.1 hy with h | h
              · exact HALL.out y h
              · rw [List.mem_singleton] at h; rw [h]; exact HSB.out
            case measure => simp [intOf]; omega
        · obtain rfl : m = f.xs.length := by omega
          have hall := HALL.out
          rw [List.take_length] at hall
          obtain ⟨l1, l2⟩ := fade_halves hab HSM.out hall
          have pf1 := (pwB_facts (n := a) (by omega)).2.2.2.1
          have pf2 := (pwB_facts (n := b) (by omega)).2.2.2.1
          have pf3 := (pwB_facts (n := a + b) hab).2.2.2.1
          have E1 : oftenE f (pwB a) 1 = 0 := oftenE_ok.2 ⟨HOK.out, by omega, pf1, by omega⟩
          have F1 : oftenF f (pwB a) 1 = ⟨f.C, fadeL (pwB a) f.xs, f.R, f.T + 1⟩ := by unfold oftenF; rw [if_pos E1]; rfl
          have hok1 : (⟨f.C, fadeL (pwB a) f.xs, f.R, f.T + 1⟩ : Fct).ok = true := fade_check (T' := f.T + 1) (show checkS f.C f.xs f.R f.T = true from HOK.out) pf1 (by omega) (by omega)
          have E2 : oftenE ⟨f.C, fadeL (pwB a) f.xs, f.R, f.T + 1⟩ (pwB b) 1 = 0 := oftenE_ok.2 ⟨hok1, by omega, pf2, by show 1 ≤ 4096 - (f.T + 1); omega⟩
          have F2 : oftenF ⟨f.C, fadeL (pwB a) f.xs, f.R, f.T + 1⟩ (pwB b) 1 = ⟨f.C, f.xs.map (fun x => scaleF x (-((a + b : Nat) : Int))), f.R, f.T + 1 + 1⟩ := by
            unfold oftenF; rw [if_pos E2]
            show (⟨f.C, fadeL (pwB b) (fadeL (pwB a) f.xs), f.R, f.T + 1 + 1⟩ : Fct) = _
            rw [l1]
          have E3 : oftenE f (pwB (a + b)) 1 = 0 := oftenE_ok.2 ⟨HOK.out, by omega, pf3, by omega⟩
          have F3 : oftenF f (pwB (a + b)) 1 = ⟨f.C, f.xs.map (fun x => scaleF x (-((a + b : Nat) : Int))), f.R, f.T + 1⟩ := by
            unfold oftenF; rw [if_pos E3]
            show (⟨f.C, fadeL (pwB (a + b)) f.xs, f.R, f.T + 1⟩ : Fct) = _
            rw [l2]
          have h1 := fun W h => factor_any f (some ⟨bx, ox, none⟩) c (pwB a) W h
          have h2 := fun A2 c2 W h => factor_any ⟨f.C, fadeL (pwB a) f.xs, f.R, f.T + 1⟩ A2 c2 (pwB b) W h
          have h3 := fun W h => factor_any f (some ⟨bx, ox, none⟩) c (pwB (a + b)) W h
          rw [E1, F1] at h1; rw [E2, F2] at h2; rw [E3, F3] at h3
          have hys : (f.xs.map (fun x => scaleF x (-((a + b : Nat) : Int)))).length = f.xs.length := List.length_map _
          have hyg : ∀ m, m < f.xs.length → (f.xs.map (fun x => scaleF x (-((a + b : Nat) : Int))))[m]?.getD 0 = scaleF (f.xs[m]?.getD 0) (-((a + b : Nat) : Int)) := fun m hm => by
            rw [List.getElem?_map, List.getElem?_eq_getElem hm]; rfl
          have hxl := fadeL_length (pwB a) f.xs
          generalize f.xs.map (fun x => scaleF x (-((a + b : Nat) : Int))) = ys at *
          unfold facV at h1 h2 h3
          dsimp only at h2
          rw [hxl] at h2
          generalize hgl : fadeL (pwB a) f.xs = gx at *
          have H1 := Lib.hid h1; have H2 := Lib.hid h2; have H3 := Lib.hid h3
          have HYS := Lib.hid hys; have HYG := Lib.hid hyg; have HXL := Lib.hid hxl; have HALL2 := Lib.hid hall
          clear h1 h2 h3 E1 E2 E3 F1 F2 F3 hys hyg hxl hall l1 l2 hok1 pf1 pf2 pf3 hgl
          have bf := K1.box (.head _)
          have hgf := (K1.arg (.head _)).old (Nat.le_refl _)
          have hfar : 0 < (⟨f.C, gx, f.R, f.T + 1⟩ : Fct).xs.length → ∀ a, some (⟨bx, ox, none⟩ : Addr) = some a → a.block ≠ w1.heap.size := fun _ => hgf hpos
          have HFAR := Lib.hid hfar
          have hax := K1.arg (.head _)
          have HAX := Lib.hid hax
          clear hgf hfar hax r0 r1 r2 r3
          obtain ⟨r0, r1, r2, r3⟩ := bf.c4
          go_wp2_with fail

          have KEEP : ∀ Y, Below w1.heap.size w1 Y → (Y.cell? ⟨w.heap.size, 0, none⟩ = some (.int .i64 f.C) ∧ Y.cell? ⟨w.heap.size, 1, none⟩ = some (.slice (some ⟨bx, ox, none⟩) f.xs.length c) ∧ Y.cell? ⟨w.heap.size, 2, none⟩ = some (.int .i64 f.R) ∧ Y.cell? ⟨w.heap.size, 3, none⟩ = some (.int .i64 f.T)) ∧ Below w1.heap.size w1 Y :=
            fun Y h => ⟨(bf.below h bf.lt).c4, h⟩
          have HKEEP := Lib.hid KEEP
          clear KEEP
          go_cut [10, 11] (fun s10 s11 wx => ∃ (bq : Nat) (A4 : Option Addr) (c4 : Nat), s10 = .pointer (some ⟨bq, 0, none⟩) ∧ s11 = .int .i64 0 ∧ Bk wx bq 24 #[.int .i64 (⟨f.C, gx, f.R, f.T + 1⟩ : Fct).C, .slice A4 (⟨f.C, gx, f.R, f.T + 1⟩ : Fct).xs.length c4, .int .i64 (⟨f.C, gx, f.R, f.T + 1⟩ : Fct).R, .int .i64 (⟨f.C, gx, f.R, f.T + 1⟩ : Fct).T] ∧ SlArg wx A4 (⟨f.C, gx, f.R, f.T + 1⟩ : Fct).xs c4 ∧ Below w1.heap.size w1 wx)
          case first =>
            go_region_held3 (fun X => (X.cell? ⟨w.heap.size, 0, none⟩ = some (.int .i64 f.C) ∧ X.cell? ⟨w.heap.size, 1, none⟩ = some (.slice (some ⟨bx, ox, none⟩) f.xs.length c) ∧ X.cell? ⟨w.heap.size, 2, none⟩ = some (.int .i64 f.R) ∧ X.cell? ⟨w.heap.size, 3, none⟩ = some (.int .i64 f.T)) ∧ Below w1.heap.size w1 X)
              ((refine HKEEP.out _ ?_; repeat (first | assumption | exact Below.refl _ _ | refine Below.allocs ?_ _ | refine Below.sets ?_ (by dsimp only; omega) _ | refine Below.drews ?_ | refine Below.chain ?_ (by assumption))))
              (first
                | (go_at_call 37; ((with_reducible refine (HJ.out _).mono ?_); rintro e w' ⟨rfl, rfl⟩))
                | (go_at_call 13; ((with_reducible refine (H1.out _ (HAX.out.below (by repeat (first | assumption | exact Below.refl _ _ | refine Below.allocs ?_ _ | refine Below.sets ?_ (by dsimp only; omega) _ | refine Below.drews ?_ | refine Below.chain ?_ (by assumption))))).mono ?_); rintro e w5 ⟨⟨v, rfl, A4, c4, rfl, hs5, hA5⟩, hb5⟩); unfold facV; have hz5 : w1.heap.size ≤ w5.heap.size := Below.size (Below.chain (w := w1) (by repeat (first | assumption | exact Below.refl _ _ | refine Below.allocs ?_ _ | refine Below.sets ?_ (by dsimp only; omega) _ | refine Below.drews ?_ | refine Below.chain ?_ (by assumption))) hb5); (first | (have bx := Bk.below (show Bk (w1.alloc (.cells #[.int .i64 0, .slice none 0 0, .int .i64 0, .int .i64 0] 24)).drew w1.heap.size 24 #[.int .i64 0, .slice none 0 0, .int .i64 0, .int .i64 0] from Bk.new w1 _ _) hb5 (Bk.lt (show Bk (w1.alloc (.cells #[.int .i64 0, .slice none 0 0, .int .i64 0, .int .i64 0] 24)).drew w1.heap.size 24 #[.int .i64 0, .slice none 0 0, .int .i64 0, .int .i64 0] from Bk.new w1 _ _)); obtain ⟨⟨x0, x1, x2, x3⟩, y0, y1, y2, y3⟩ := bx.all4) | skip)))
            all_goals
              go_wp2_with fail
              go_meet
              refine ⟨_, A4, c4, rfl, rfl, ?_, ?_, ?_⟩
              · first
                | exact (fac_box bx _ _ _ _).1
                | exact Bk.new _ _ _
              · first
                | exact hs5.below ((Below.refl _ _).alloc (Nat.le_refl _) _)
                | (refine (fac_box bx _ _ _ _).2.2 _ _ _ hs5 (fun hl a ha => ?_)
                   rcases hA5 with h | h
                   · exact HFAR.out hl a (by rw [← h]; exact ha)
                   · have h2 := h a ha
                     have h3 : (w1.alloc (.cells #[.int .i64 0, .slice none 0 0, .int .i64 0, .int .i64 0] 24)).heap.size ≤ a.block := h2
                     rw [World.size_alloc] at h3
                     omega)
              · repeat (first | assumption | exact Below.refl _ _ | refine Below.allocs ?_ _ | refine Below.sets ?_ (by dsimp only; omega) _ | refine Below.drews ?_ | refine Below.chain ?_ (by assumption))
          case rest =>
          obtain ⟨bq, A4, c4, rfl, rfl, hbq, hs4, hb4⟩ := hcut
          dsimp only at hbq
          rw [HXL.out] at hbq
          have K4 := ((K1.call hb4).known hbq).more hs4
          clear K1 hbq hs4 hb4 HFAR HKEEP r0 r1 r2 r3 bf HAX
          have bf := K4.box (.head _)
          have hgf := (K4.arg (.head _)).old (Nat.le_refl _)
          have hfar : 0 < (⟨f.C, ys, f.R, f.T + 1 + 1⟩ : Fct).xs.length → ∀ a, A4 = some a → a.block ≠ wc.heap.size := fun _ => hgf (by dsimp only; rw [HXL.out]; exact hpos)
          have HFAR := Lib.hid hfar
          have hax := K4.arg (.head _)
          have HAX := Lib.hid hax
          clear hgf hfar hax
          obtain ⟨r0, r1, r2, r3⟩ := bf.c4
          go_wp2_with fail

          have KEEP : ∀ Y, Below wc.heap.size wc Y → (Y.cell? ⟨bq, 0, none⟩ = some (.int .i64 f.C) ∧ Y.cell? ⟨bq, 1, none⟩ = some (.slice A4 f.xs.length c4) ∧ Y.cell? ⟨bq, 2, none⟩ = some (.int .i64 f.R) ∧ Y.cell? ⟨bq, 3, none⟩ = some (.int .i64 (f.T + 1))) ∧ Below wc.heap.size wc Y :=
            fun Y h => ⟨(bf.below h bf.lt).c4, h⟩
          have HKEEP := Lib.hid KEEP
          clear KEEP
          go_cut [12, 13] (fun s12 s13 wx => ∃ (bq : Nat) (A5 : Option Addr) (c5 : Nat), s12 = .pointer (some ⟨bq, 0, none⟩) ∧ s13 = .int .i64 0 ∧ Bk wx bq 24 #[.int .i64 (⟨f.C, ys, f.R, f.T + 1 + 1⟩ : Fct).C, .slice A5 (⟨f.C, ys, f.R, f.T + 1 + 1⟩ : Fct).xs.length c5, .int .i64 (⟨f.C, ys, f.R, f.T + 1 + 1⟩ : Fct).R, .int .i64 (⟨f.C, ys, f.R, f.T + 1 + 1⟩ : Fct).T] ∧ SlArg wx A5 (⟨f.C, ys, f.R, f.T + 1 + 1⟩ : Fct).xs c5 ∧ Below wc.heap.size wc wx)
          case first =>
            go_region_held3 (fun X => (X.cell? ⟨bq, 0, none⟩ = some (.int .i64 f.C) ∧ X.cell? ⟨bq, 1, none⟩ = some (.slice A4 f.xs.length c4) ∧ X.cell? ⟨bq, 2, none⟩ = some (.int .i64 f.R) ∧ X.cell? ⟨bq, 3, none⟩ = some (.int .i64 (f.T + 1))) ∧ Below wc.heap.size wc X)
              ((refine HKEEP.out _ ?_; repeat (first | assumption | exact Below.refl _ _ | refine Below.allocs ?_ _ | refine Below.sets ?_ (by dsimp only; omega) _ | refine Below.drews ?_ | refine Below.chain ?_ (by assumption))))
              (first
                | (go_at_call 37; ((with_reducible refine (HK.out _).mono ?_); rintro e w' ⟨rfl, rfl⟩))
                | (go_at_call 13; ((with_reducible refine (H2.out A4 c4 _ (HAX.out.below (by repeat (first | assumption | exact Below.refl _ _ | refine Below.allocs ?_ _ | refine Below.sets ?_ (by dsimp only; omega) _ | refine Below.drews ?_ | refine Below.chain ?_ (by assumption))))).mono ?_); rintro e w5 ⟨⟨v, rfl, A5, c5, rfl, hs5, hA5⟩, hb5⟩); unfold facV; have hz5 : wc.heap.size ≤ w5.heap.size := Below.size (Below.chain (w := wc) (by repeat (first | assumption | exact Below.refl _ _ | refine Below.allocs ?_ _ | refine Below.sets ?_ (by dsimp only; omega) _ | refine Below.drews ?_ | refine Below.chain ?_ (by assumption))) hb5); (first | (have bx := Bk.below (show Bk (wc.alloc (.cells #[.int .i64 0, .slice none 0 0, .int .i64 0, .int .i64 0] 24)).drew wc.heap.size 24 #[.int .i64 0, .slice none 0 0, .int .i64 0, .int .i64 0] from Bk.new wc _ _) hb5 (Bk.lt (show Bk (wc.alloc (.cells #[.int .i64 0, .slice none 0 0, .int .i64 0, .int .i64 0] 24)).drew wc.heap.size 24 #[.int .i64 0, .slice none 0 0, .int .i64 0, .int .i64 0] from Bk.new wc _ _)); obtain ⟨⟨x0, x1, x2, x3⟩, y0, y1, y2, y3⟩ := bx.all4) | skip)))
            all_goals
              go_wp2_with fail
              go_meet
              refine ⟨_, A5, c5, rfl, rfl, ?_, ?_, ?_⟩
              · first
                | exact (fac_box bx _ _ _ _).1
                | exact Bk.new _ _ _
              · first
                | exact hs5.below ((Below.refl _ _).alloc (Nat.le_refl _) _)
                | (refine (fac_box bx _ _ _ _).2.2 _ _ _ hs5 (fun hl a ha => ?_)
                   rcases hA5 with h | h
                   · exact HFAR.out hl a (by rw [← h]; exact ha)
                   · have h2 := h a ha
                     have h3 : (wc.alloc (.cells #[.int .i64 0, .slice none 0 0, .int .i64 0, .int .i64 0] 24)).heap.size ≤ a.block := h2
                     rw [World.size_alloc] at h3
                     omega)
              · repeat (first | assumption | exact Below.refl _ _ | refine Below.allocs ?_ _ | refine Below.sets ?_ (by dsimp only; omega) _ | refine Below.drews ?_ | refine Below.chain ?_ (by assumption))
          case rest =>
          obtain ⟨bq2, A5, c5, rfl, rfl, hbq, hs5, hb5⟩ := hcut
          dsimp only at hbq
          rw [HYS.out] at hbq
          have K5 := ((K4.call hb5).known hbq).more hs5
          clear K4 hbq hs5 hb5 HFAR HKEEP r0 r1 r2 r3 bf HAX
          obtain ⟨r0, r1, r2, r3⟩ := (K5.box (.tail _ (.tail _ (.head _)))).c4
          obtain ⟨s0, s1, s2, s3⟩ := (K5.box (.head _)).c4
          obtain ⟨by5, oy, hA5, hby, hcy⟩ := (K5.arg (.head _)).reads.2 (by dsimp only; rw [HYS.out]; exact hpos)
          subst hA5
          have hcx5 := K5.arg (.tail _ (.tail _ (.head _)))
          have HCX5 := Lib.hid hcx5; have HCY := Lib.hid hcy
          clear hcx5 hcy
          go_wp2_with fail
          go_loop [14, 15, 16] (fun i _ _ => ∃ m : Nat, i = .int .i64 (m : Int) ∧ m ≤ f.xs.length) (fun i _ _ => f.xs.length - (intOf i).toNat)
          case atStart => exact ⟨0, rfl, Nat.zero_le _⟩
          case round =>
            obtain ⟨m, rfl, hm⟩ := hrel
            by_cases hlt : (m : Int) < (f.xs.length : Int)
            · obtain ⟨bz, oz, ez, _, hcz⟩ := HCX5.out.reads.2 hpos
              cases ez
              have hcj := hcz m (by omega)
              have hcy := HCY.out m (by (try dsimp only); rw [HYS.out]; omega)
              try dsimp only at hcy
              rw [HYG.out m (by omega)] at hcy
              have hv : f.xs[m]?.getD 0 < 18446744073709551616 := HX.out.reads.lt m
              have hvy := (K5.arg (.head _)).reads.lt m
              try dsimp only at hvy
              rw [HYG.out m (by omega)] at hvy
              have hsb : scaleB (f.xs[m]?.getD 0) (-((a + b : Nat) : Int)) = true := HALL2.out _ (by rw [List.getElem?_eq_getElem (by omega)]; exact List.getElem_mem _)
              have hs := fun W => HSC.out _ hv W
              rw [hsb] at hs
              clear hv hcz hsb
              generalize f.xs[m]?.getD 0 = x at *
              generalize scaleF x (-((a + b : Nat) : Int)) = y at *
              have hsame := fun W => rsame_any y y hvy hvy W
              rw [sameS_self] at hsame
              have HS := Lib.hid hs; have HSA := Lib.hid hsame
              clear hs hsame hvy
              go_wp2_with (first
                | (go_at_call 39; refine (HS.out _).mono ?_; rintro e w' ⟨rfl, rfl⟩)
                | (go_at_call 33; refine (HSA.out _).mono ?_; rintro e w' ⟨rfl, rfl⟩))
              go_round
              case rel => exact ⟨m + 1, by go_num, by omega⟩
              case measure => simp [intOf]; omega
            · obtain rfl : m = f.xs.length := by omega
              clear hm hlt
              have bf := K5.box (.tail _ (.tail _ (.head _)))
              have hgf := (K5.arg (.tail _ (.tail _ (.head _)))).old (Nat.le_refl _)
              have hfar : 0 < (⟨f.C, ys, f.R, f.T + 1⟩ : Fct).xs.length → ∀ a, some (⟨bx, ox, none⟩ : Addr) = some a → a.block ≠ wc.heap.size := fun _ => hgf hpos
              have HFAR := Lib.hid hfar
              have hax := K5.arg (.tail _ (.tail _ (.head _)))
              have HAX := Lib.hid hax
              clear hgf hfar hax r0 r1 r2 r3
              obtain ⟨r0, r1, r2, r3⟩ := bf.c4
              go_wp2_with fail

              have KEEP : ∀ Y, Below wc.heap.size wc Y → (Y.cell? ⟨w.heap.size, 0, none⟩ = some (.int .i64 f.C) ∧ Y.cell? ⟨w.heap.size, 1, none⟩ = some (.slice (some ⟨bx, ox, none⟩) f.xs.length c) ∧ Y.cell? ⟨w.heap.size, 2, none⟩ = some (.int .i64 f.R) ∧ Y.cell? ⟨w.heap.size, 3, none⟩ = some (.int .i64 f.T)) ∧ Below wc.heap.size wc Y :=
                fun Y h => ⟨(bf.below h bf.lt).c4, h⟩
              have HKEEP := Lib.hid KEEP
              clear KEEP
              go_cut [17, 13] (fun s17 s13 wx => ∃ (bq : Nat) (A6 : Option Addr) (c6 : Nat), s17 = .pointer (some ⟨bq, 0, none⟩) ∧ s13 = .int .i64 0 ∧ Bk wx bq 24 #[.int .i64 (⟨f.C, ys, f.R, f.T + 1⟩ : Fct).C, .slice A6 (⟨f.C, ys, f.R, f.T + 1⟩ : Fct).xs.length c6, .int .i64 (⟨f.C, ys, f.R, f.T + 1⟩ : Fct).R, .int .i64 (⟨f.C, ys, f.R, f.T + 1⟩ : Fct).T] ∧ SlArg wx A6 (⟨f.C, ys, f.R, f.T + 1⟩ : Fct).xs c6 ∧ Below wc.heap.size wc wx)
              case first =>
                go_region_held3 (fun X => (X.cell? ⟨w.heap.size, 0, none⟩ = some (.int .i64 f.C) ∧ X.cell? ⟨w.heap.size, 1, none⟩ = some (.slice (some ⟨bx, ox, none⟩) f.xs.length c) ∧ X.cell? ⟨w.heap.size, 2, none⟩ = some (.int .i64 f.R) ∧ X.cell? ⟨w.heap.size, 3, none⟩ = some (.int .i64 f.T)) ∧ Below wc.heap.size wc X)
                  ((refine HKEEP.out _ ?_; repeat (first | assumption | exact Below.refl _ _ | refine Below.allocs ?_ _ | refine Below.sets ?_ (by dsimp only; omega) _ | refine Below.drews ?_ | refine Below.chain ?_ (by assumption))))
                  (first
                    | (go_at_call 37; ((with_reducible refine (HP3.out _).mono ?_); rintro e w' ⟨rfl, rfl⟩))
                    | (go_at_call 13; ((with_reducible refine (H3.out _ (HAX.out.below (by repeat (first | assumption | exact Below.refl _ _ | refine Below.allocs ?_ _ | refine Below.sets ?_ (by dsimp only; omega) _ | refine Below.drews ?_ | refine Below.chain ?_ (by assumption))))).mono ?_); rintro e w5 ⟨⟨v, rfl, A6, c6, rfl, hs5, hA5⟩, hb5⟩); unfold facV; have hz5 : wc.heap.size ≤ w5.heap.size := Below.size (Below.chain (w := wc) (by repeat (first | assumption | exact Below.refl _ _ | refine Below.allocs ?_ _ | refine Below.sets ?_ (by dsimp only; omega) _ | refine Below.drews ?_ | refine Below.chain ?_ (by assumption))) hb5); (first | (have bx := Bk.below (show Bk (wc.alloc (.cells #[.int .i64 0, .slice none 0 0, .int .i64 0, .int .i64 0] 24)).drew wc.heap.size 24 #[.int .i64 0, .slice none 0 0, .int .i64 0, .int .i64 0] from Bk.new wc _ _) hb5 (Bk.lt (show Bk (wc.alloc (.cells #[.int .i64 0, .slice none 0 0, .int .i64 0, .int .i64 0] 24)).drew wc.heap.size 24 #[.int .i64 0, .slice none 0 0, .int .i64 0, .int .i64 0] from Bk.new wc _ _)); obtain ⟨⟨x0, x1, x2, x3⟩, y0, y1, y2, y3⟩ := bx.all4) | skip)))
                all_goals
                  go_wp2_with fail
                  go_meet
                  refine ⟨_, A6, c6, rfl, rfl, ?_, ?_, ?_⟩
                  · first
                    | exact (fac_box bx _ _ _ _).1
                    | exact Bk.new _ _ _
                  · first
                    | exact hs5.below ((Below.refl _ _).alloc (Nat.le_refl _) _)
                    | (refine (fac_box bx _ _ _ _).2.2 _ _ _ hs5 (fun hl a ha => ?_)
                       rcases hA5 with h | h
                       · exact HFAR.out hl a (by rw [← h]; exact ha)
                       · have h2 := h a ha
                         have h3 : (wc.alloc (.cells #[.int .i64 0, .slice none 0 0, .int .i64 0, .int .i64 0] 24)).heap.size ≤ a.block := h2
                         rw [World.size_alloc] at h3
                         omega)
                  · repeat (first | assumption | exact Below.refl _ _ | refine Below.allocs ?_ _ | refine Below.sets ?_ (by dsimp only; omega) _ | refine Below.drews ?_ | refine Below.chain ?_ (by assumption))
              case rest =>
              obtain ⟨bq3, A6, c6, rfl, rfl, hbq, hs6, hb6⟩ := hcut
              dsimp only at hbq
              rw [HYS.out] at hbq
              have K6 := ((K5.call hb6).known hbq).more hs6
              clear K5 hbq hs6 hb6 HFAR HKEEP r0 r1 r2 r3 s0 s1 s2 s3 bf HAX
              obtain ⟨r0, r1, r2, r3⟩ := (K6.box (.head _)).c4
              obtain ⟨s0, s1, s2, s3⟩ := (K6.box (.tail _ (.head _))).c4
              have hsm := all_same A6 _ ys c6 c5 _ (K6.arg (.head _)) (K6.arg (.tail _ (.head _)))
              rw [HYS.out] at hsm
              have HSAME := Lib.hid hsm
              clear hsm
              go_wp2_with fail
              refine HSAME.out.mono ?_
              rintro e w7 ⟨rfl, n7, rfl⟩
              have K7 := K6.call (Below.drewN (Below.refl _ _) n7)
              clear K6 r0 r1 r2 r3 s0 s1 s2 s3
              go_wp2_with fail

              refine (live12 _).mono ?_
              rintro e w' ⟨rfl, hb⟩
              have HB := Lib.hid (Below.add K7.below hb)
              clear hb
              go_wp2
              go_ret
              exact ⟨rfl, HB.out⟩

    · by_cases h0 : f.ok = true
      · rw [show checkS f.C f.xs f.R f.T = true from h0] at HCK
        by_cases q0 : j < 0
        · clear hgood
          go_enter Try.func11, Try.ntmps11
          go_wp2_with fail
          refine (HCK.out _ (K0.arg (.head _))).mono ?_
          rintro e w1 ⟨rfl, hb1⟩
          have K1 := K0.call hb1
          clear K0 hb1
          obtain ⟨r0, r1, r2, r3⟩ := (K1.box (.head _)).c4
          go_wp2_with fail
          refine (live12 _).mono ?_
          rintro e w' ⟨rfl, hb⟩
          have HB := Lib.hid (Below.add K1.below hb)
          clear hb
          go_wp2
          go_ret
          exact ⟨rfl, HB.out⟩

        by_cases q1 : k < 0
        · clear hgood
          go_enter Try.func11, Try.ntmps11
          go_wp2_with fail
          refine (HCK.out _ (K0.arg (.head _))).mono ?_
          rintro e w1 ⟨rfl, hb1⟩
          have K1 := K0.call hb1
          clear K0 hb1
          obtain ⟨r0, r1, r2, r3⟩ := (K1.box (.head _)).c4
          go_wp2_with fail
          refine (live12 _).mono ?_
          rintro e w' ⟨rfl, hb⟩
          have HB := Lib.hid (Below.add K1.below hb)
          clear hb
          go_wp2
          go_ret
          exact ⟨rfl, HB.out⟩

        by_cases q2 : 20 < j
        · clear hgood
          go_enter Try.func11, Try.ntmps11
          go_wp2_with fail
          refine (HCK.out _ (K0.arg (.head _))).mono ?_
          rintro e w1 ⟨rfl, hb1⟩
          have K1 := K0.call hb1
          clear K0 hb1
          obtain ⟨r0, r1, r2, r3⟩ := (K1.box (.head _)).c4
          go_wp2_with fail
          refine (live12 _).mono ?_
          rintro e w' ⟨rfl, hb⟩
          have HB := Lib.hid (Below.add K1.below hb)
          clear hb
          go_wp2
          go_ret
          exact ⟨rfl, HB.out⟩

        by_cases q3 : 20 < k
        · clear hgood
          go_enter Try.func11, Try.ntmps11
          go_wp2_with fail
          refine (HCK.out _ (K0.arg (.head _))).mono ?_
          rintro e w1 ⟨rfl, hb1⟩
          have K1 := K0.call hb1
          clear K0 hb1
          obtain ⟨r0, r1, r2, r3⟩ := (K1.box (.head _)).c4
          go_wp2_with fail
          refine (live12 _).mono ?_
          rintro e w' ⟨rfl, hb⟩
          have HB := Lib.hid (Below.add K1.below hb)
          clear hb
          go_wp2
          go_ret
          exact ⟨rfl, HB.out⟩

        by_cases q4 : 20 < j + k
        · clear hgood
          go_enter Try.func11, Try.ntmps11
          go_wp2_with fail
          refine (HCK.out _ (K0.arg (.head _))).mono ?_
          rintro e w1 ⟨rfl, hb1⟩
          have K1 := K0.call hb1
          clear K0 hb1
          obtain ⟨r0, r1, r2, r3⟩ := (K1.box (.head _)).c4
          go_wp2_with fail
          refine (live12 _).mono ?_
          rintro e w' ⟨rfl, hb⟩
          have HB := Lib.hid (Below.add K1.below hb)
          clear hb
          go_wp2
          go_ret
          exact ⟨rfl, HB.out⟩

        by_cases q5 : 4094 < f.T
        · clear hgood
          go_enter Try.func11, Try.ntmps11
          go_wp2_with fail
          refine (HCK.out _ (K0.arg (.head _))).mono ?_
          rintro e w1 ⟨rfl, hb1⟩
          have K1 := K0.call hb1
          clear K0 hb1
          obtain ⟨r0, r1, r2, r3⟩ := (K1.box (.head _)).c4
          go_wp2_with fail
          refine (live12 _).mono ?_
          rintro e w' ⟨rfl, hb⟩
          have HB := Lib.hid (Below.add K1.below hb)
          clear hb
          go_wp2
          go_ret
          exact ⟨rfl, HB.out⟩

        exact absurd ⟨h0, by omega, by omega, by omega, by omega, by omega, by omega⟩ hgood
      · rw [show checkS f.C f.xs f.R f.T = false from by simpa [Fct.ok] using h0] at HCK
        clear hgood
        go_enter Try.func11, Try.ntmps11
        go_wp2_with fail
        refine (HCK.out _ (K0.arg (.head _))).mono ?_
        rintro e w1 ⟨rfl, hb1⟩
        have K1 := K0.call hb1
        clear K0 hb1
        obtain ⟨r0, r1, r2, r3⟩ := (K1.box (.head _)).c4
        go_wp2_with fail
        refine (live12 _).mono ?_
        rintro e w' ⟨rfl, hb⟩
        have HB := Lib.hid (Below.add K1.below hb)
        clear hb
        go_wp2
        go_ret
        exact ⟨rfl, HB.out⟩

end Go.Proofs.Ytlkgkgnkmjbnjaa
