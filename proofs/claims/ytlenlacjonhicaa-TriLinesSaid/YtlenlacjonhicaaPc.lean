/- The walk of TriSets. -/
import Derived.Test.YtlenlacjonhicaaCk
namespace Go.Proofs.Ytlenlacjonhicaa
open Go.RowKit Go.Shelf Lev

theorem Below.add {a w w1 : World} (h : Below a.heap.size a w) (hb : Below w.heap.size w w1) : Below a.heap.size a w1 := Below.chain h hb

set_option maxRecDepth 100000 in
set_option maxHeartbeats 2000000 in
theorem triSets (f : Fct) (A : Option Addr) (c : Nat) (i : Int) (l : List Nat) (L : Option Addr) (cl : Nat) (w : World) (hx : SlArg w A f.xs c) (_hi : -9223372036854775808 ≤ i ∧ i ≤ 9223372036854775807) (hl : SlArg w L l cl) :
    Calls Try.prog 6 #[facV f.C A f.xs.length c f.R f.T, .int .i64 i, .slice L l.length cl] w fun e w' => e = .returned (.bool true) ∧ Below w.heap.size w w' := by
  have hl63 : f.xs.length ≤ 9223372036854775807 := Nat.le_trans hx.cap hx.room
  have hl64 : l.length ≤ 9223372036854775807 := Nat.le_trans hl.cap hl.room
  have K0 := (((Keep.start w).more hl).more hx).alloc #[.int .i64 f.C, .slice A f.xs.length c, .int .i64 f.R, .int .i64 f.T] 24
  have HX := Lib.hid hx; have HL := Lib.hid hl
  clear hx hl
  unfold facV
  by_cases h60 : (60 : Int) < (f.xs.length : Int) ∨ (20 : Int) < (l.length : Int)
  · rcases (by omega : (60 : Int) < (f.xs.length : Int) ∨ (¬ (60 : Int) < (f.xs.length : Int) ∧ (20 : Int) < (l.length : Int))) with h1 | ⟨h1, h2⟩
    all_goals
      clear h60
      go_enter Try.func6, Try.ntmps6
      go_wp2_with fail
      refine (live07 _).mono ?_
      rintro e w' ⟨rfl, hb⟩
      have HB := Lib.hid (Below.add K0.below hb)
      clear hb
      go_wp2
      go_ret
      exact ⟨rfl, HB.out⟩
  · have h1 : ¬ (60 : Int) < (f.xs.length : Int) := fun h => h60 (.inl h)
    have h2 : ¬ (20 : Int) < (l.length : Int) := fun h => h60 (.inr h)
    clear h60
    go_enter Try.func6, Try.ntmps6
    go_wp2_with fail
    refine named ?_
    intro W hW
    rw [show w.alloc _ = W from hW.symm] at K0
    clear hW
    have hset := set_any f A c i l L cl W (K0.arg (.head _)) (K0.arg (.tail _ (.head _)))
    refine hset.mono ?_
    clear hset
    rintro e w1 ⟨⟨v, rfl, A1, c1, rfl, hs1, _⟩, hb1⟩
    have K1 := (K0.call hb1).more hs1
    clear K0 hb1 hs1
    unfold facV
    cases hb : setB f i l
    · have hF : setF f i l = Fct.zero := by unfold setF; rw [hb, if_neg (by decide)]
      rw [hF] at K1 ⊢
      unfold Fct.zero
      clear hb hF
      go_wp2_with fail
      refine named ?_
      intro W2 hW2
      have K1 := K1.alloc #[.int .i64 0, .slice A1 0 c1, .int .i64 0, .int .i64 0] 24
      rw [← hW2] at K1
      clear hW2
      have hsame := fac_same Fct.zero A1 none c1 0 W2 (K1.arg (.head _)) ⟨FlR.nil _ _ _, Nat.le_refl _, by decide⟩
      refine hsame.mono ?_
      clear hsame
      rintro e w2 ⟨rfl, hb2⟩
      have K2 := (K1.call hb2).below
      clear K1 hb2
      go_wp2_with fail
      refine (live07 _).mono ?_
      rintro e w' ⟨rfl, hb⟩
      have HB := Lib.hid (Below.add K2 hb)
      clear hb
      go_wp2
      go_ret
      exact ⟨rfl, HB.out⟩
    · have hb' := hb
      unfold setB at hb'
      rw [Bool.and_eq_true, Bool.and_eq_true, decide_eq_true_eq] at hb'
      obtain ⟨⟨hh, hll⟩, hck⟩ := hb'
      have hok := (hasS_iff.1 hh).1
      have hol := ok_len hok
      have hC1 := hol.1
      have hC6 := hol.2.1
      have hF : setF f i l = ⟨f.C, setL (f.C + 1).toNat i.toNat l f.xs, f.R, f.T⟩ := by unfold setF; rw [if_pos hb]
      have hgs : ∀ row col : Int, 0 ≤ row → row ≤ f.C → 0 ≤ col → col ≤ f.C → getS ⟨f.C, setL (f.C + 1).toNat i.toNat l f.xs, f.R, f.T⟩ row col = if row = i ∧ i ≤ col then l[col.toNat]?.getD 0 else getS f row col := fun row col a1 a2 a3 a4 => by
        rw [← hF]; exact set_get hb a1 a2 a3 a4
      rw [hF] at K1 ⊢
      dsimp only at K1 ⊢
      have hsl := setL_length (f.C + 1).toNat i.toNat l f.xs
      generalize setL (f.C + 1).toNat i.toNat l f.xs = ys at *
      rw [hsl]
      have HGS := Lib.hid hgs; have HSL := Lib.hid hsl; have HCK := Lib.hid hck; have HOK := Lib.hid hok
      have hllf : ((l.length : Int) != f.C + 1) = false := by rw [bne_eq_false_iff_eq]; exact hll
      have HLL := Lib.hid hll
      clear hb hh hll hck hok hol hF hgs hsl
      obtain ⟨r0, r1, r2, r3⟩ := (K1.box (.head _)).c4
      have hlt1 := (K1.box (.head _)).lt
      go_wp2_with fail
      refine named ?_
      intro W2 hW2
      have K1 := K1.alloc #[.int .i64 f.C, .slice A1 f.xs.length c1, .int .i64 f.R, .int .i64 f.T] 24
      rw [← hW2] at K1
      clear hW2 r0 r1 r2 r3 hlt1
      have h3 := check_any f.C A f.xs c f.R f.T W2 (K1.arg (.tail _ (.head _)))
      rw [show checkS f.C f.xs f.R f.T = true from HOK.out] at h3
      refine h3.mono ?_
      clear h3
      rintro e w2 ⟨rfl, hb2⟩
      have K2 := K1.call hb2
      clear K1 hb2
      obtain ⟨r0, r1, r2, r3⟩ := (K2.box (.head _)).c4
      obtain ⟨s0, s1, s2, s3⟩ := (K2.box (.tail _ (.head _))).c4
      go_wp2_with fail
      have h4 := check_any f.C A1 ys c1 f.R f.T w2 (K2.arg (.head _))
      rw [HCK.out, HSL.out] at h4
      refine h4.mono ?_
      clear h4 r0 r1 r2 r3 s0 s1 s2 s3
      rintro e w3 ⟨rfl, hb3⟩
      have K3 := K2.call hb3
      clear K2 hb3
      obtain ⟨r0, r1, r2, r3⟩ := (K3.box (.head _)).c4
      obtain ⟨s0, s1, s2, s3⟩ := (K3.box (.tail _ (.head _))).c4
      go_wp2_with fail
      go_loopw [9, 10, 11] (fun r _ _ wr => ∃ m : Nat, r = .int .i64 (m : Int) ∧ (m : Int) ≤ f.C + 1 ∧ Below w3.heap.size w3 wr) (fun r _ _ _ => (f.C + 1 - intOf r).toNat)
      case atStart => exact ⟨0, rfl, by omega, Below.refl _ _⟩
      case round =>
        obtain ⟨m, rfl, hm, hbr⟩ := hrel
        have K4 := K3.call hbr
        clear r0 r1 r2 r3 s0 s1 s2 s3
        obtain ⟨r0, r1, r2, r3⟩ := (K4.box (.head _)).c4
        obtain ⟨s0, s1, s2, s3⟩ := (K4.box (.tail _ (.head _))).c4
        by_cases hlt : (m : Int) ≤ f.C
        · obtain ⟨wo, hwo⟩ : ∃ wo : World, wo = wr := ⟨_, rfl⟩
          have HWO := Lib.hid hbr
          subst hwo
          go_wp2_with fail
          go_loopw [10, 11] (fun q _ wr => ∃ d : Nat, q = .int .i64 (d : Int) ∧ (d : Int) ≤ f.C + 1 ∧ Below wo.heap.size wo wr) (fun q _ _ => (f.C + 1 - intOf q).toNat)
          case atStart => exact ⟨0, rfl, by omega, Below.refl _ _⟩
          case round =>
            obtain ⟨d, rfl, hd, hbq⟩ := hrel
            have K5 := K4.call hbq
            clear r0 r1 r2 r3 s0 s1 s2 s3
            obtain ⟨r0, r1, r2, r3⟩ := (K5.box (.head _)).c4
            obtain ⟨s0, s1, s2, s3⟩ := (K5.box (.tail _ (.head _))).c4
            by_cases hlt2 : (d : Int) ≤ f.C
            · have hg1 := get_any f A c (m : Int) (d : Int) wr (K5.arg (.tail _ (.head _)))
              unfold facV at hg1
              go_wp2_with fail
              refine hg1.mono ?_
              clear hg1 r0 r1 r2 r3 s0 s1 s2 s3
              rintro e w4 ⟨rfl, hb4⟩
              have K6 := K5.call hb4
              have hbq6 := Below.add hbq hb4
              clear K5 hb4 hbq
              obtain ⟨r0, r1, r2, r3⟩ := (K6.box (.head _)).c4
              obtain ⟨bl, offl, rfl, _, hcl⟩ := (K6.arg (.tail _ (.tail _ (.head _)))).reads.2 (by have := HLL.out; omega)
              have hld := hcl d (by have := HLL.out; omega)
              have hdl : (d : Int) < (l.length : Int) := by have := HLL.out; omega
              have hg2 := get_any ⟨f.C, ys, f.R, f.T⟩ A1 c1 (m : Int) (d : Int)
              have hgv := HGS.out (m : Int) (d : Int) (by omega) (by omega) (by omega) (by omega)
              rw [Int.toNat_natCast] at hgv
              have hlv : getS f (m : Int) (d : Int) < 18446744073709551616 := getS_lt HX.out.reads.1 _ _
              have hlv2 : l[d]?.getD 0 < 18446744073709551616 := HL.out.reads.lt d
              unfold facV at hg2
              dsimp only at hg2
              rw [HSL.out, hgv] at hg2
              have HG2 := Lib.hid hg2
              have HLV := Lib.hid hlv; have HLV2 := Lib.hid hlv2
              clear hg2 hgv hcl hlv hlv2
              generalize l[d]?.getD 0 = y at *
              generalize getS f (m : Int) (d : Int) = x at *
              by_cases hin : (m : Int) = i ∧ i ≤ (d : Int)
              · rw [if_pos hin] at HG2
                obtain ⟨hin1, hin2⟩ := hin
                have hmi : ((m : Int) == i) = true := by rw [beq_iff_eq]; exact hin1
                clear hin1
                go_wp2_with fail
                refine (HG2.out _ (K6.arg (.head _))).mono ?_
                clear r0 r1 r2 r3
                rintro e w5 ⟨rfl, hb5⟩
                have hbq7 := Below.add hbq6 hb5
                have hss := sameS_self y
                clear hb5 K6
                go_wp2_with (go_at_call 21; refine (rsame_any y y HLV2.out HLV2.out _).mono ?_; rintro e w' ⟨rfl, rfl⟩)
                go_roundw
                case rel => exact ⟨d + 1, by go_num, by omega, hbq7⟩
                case measure => simp [intOf]; omega
              · rw [if_neg hin] at HG2
                have hcs : ((m : Int) == i) = false ∨ (((m : Int) == i) = true ∧ ¬ i ≤ (d : Int)) := by
                  by_cases h : (m : Int) = i
                  · exact .inr ⟨by rw [beq_iff_eq]; exact h, fun h2 => hin ⟨h, h2⟩⟩
                  · exact .inl (by rw [beq_eq_false_iff_ne]; exact h)
                clear hin
                rcases hcs with hmi | ⟨hmi, hin2⟩
                all_goals
                  go_wp2_with fail
                  refine (HG2.out _ (K6.arg (.head _))).mono ?_
                  clear r0 r1 r2 r3
                  rintro e w5 ⟨rfl, hb5⟩
                  have hbq7 := Below.add hbq6 hb5
                  have hss := sameS_self x
                  clear hb5 K6
                  go_wp2_with (go_at_call 21; refine (rsame_any x x HLV.out HLV.out _).mono ?_; rintro e w' ⟨rfl, rfl⟩)
                  go_roundw
                  case rel => exact ⟨d + 1, by go_num, by omega, hbq7⟩
                  case measure => simp [intOf]; omega
            · clear r0 r1 r2 r3 s0 s1 s2 s3
              obtain ⟨r0, r1, r2, r3⟩ := (K5.box (.head _)).c4
              obtain ⟨s0, s1, s2, s3⟩ := (K5.box (.tail _ (.head _))).c4
              have hbrq := Below.add HWO.out hbq
              go_wp2
              go_roundw
              case rel => exact ⟨m + 1, by go_num, by omega, hbrq⟩
              case measure => simp [intOf]; omega
        · go_wp2_with fail
          refine (live07 _).mono ?_
          rintro e w' ⟨rfl, hb⟩
          have HB := Lib.hid (Below.add K4.below hb)
          clear hb
          go_wp2
          go_ret
          exact ⟨rfl, HB.out⟩

end Go.Proofs.Ytlenlacjonhicaa
