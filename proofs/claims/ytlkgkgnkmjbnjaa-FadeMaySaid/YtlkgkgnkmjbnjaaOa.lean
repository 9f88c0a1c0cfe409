/- The walk of FadeOne. -/
import Derived.Test.YtlkgkgnkmjbnjaaDk
namespace Go.Proofs.Ytlkgkgnkmjbnjaa
open Go.RowKit Go.Shelf Lev

end Go.Proofs.Ytlkgkgnkmjbnjaa
namespace Lev
theorem fmul_one {x : Nat} (hx : fin x) (hlt : x < 18446744073709551616) : fmul x 4607182418800017408 = x := by
  obtain ⟨r, _, h2, _, h4⟩ := fmul_spec (b := 4607182418800017408) hx (by decide +kernel)
  have e1 : fv 4607182418800017408 = 1 := by decide +kernel
  rw [e1, Rat.mul_one, ab_fv] at h4
  rw [h2, h4.unique (IsRnd.exact hx), word_sg_rg x hlt]
theorem fadeL_one {xs : List Nat} (hx : ∀ x ∈ xs, fin x ∧ x < 18446744073709551616) : fadeL 4607182418800017408 xs = xs := by
  unfold fadeL
  have : xs.map (fun x => fmul x 4607182418800017408) = xs.map id := List.map_congr_left fun x h => fmul_one (hx x h).1 (hx x h).2
  rw [this, List.map_id]
end Lev
namespace Go.Proofs.Ytlkgkgnkmjbnjaa
open Go.RowKit Go.Shelf Lev

theorem Bk.fac (w : World) (a b c d : Value) : Bk (w.alloc (.cells #[a, b, c, d] 24)) w.heap.size 24 #[a, b, c, d] := Bk.new _ _ _

set_option maxRecDepth 100000 in
set_option maxHeartbeats 1000000 in
theorem fadeOne (f : Fct) (A : Option Addr) (c : Nat) (w : World) (hx : SlArg w A f.xs c) :
    Calls Try.prog 6 #[facV f.C A f.xs.length c f.R f.T] w fun e w' => e = .returned (.bool true) ∧ Below w.heap.size w w' := by
  have hl63 : f.xs.length ≤ 9223372036854775807 := Nat.le_trans hx.cap hx.room
  have HX := Lib.hid hx; clear hx
  unfold facV
  go_enter Try.func6, Try.ntmps6
  by_cases h60 : (60 : Int) < (f.xs.length : Int)
  · go_wp2_with fail
    refine (live12 _).mono ?_
    rintro e w' ⟨rfl, hb⟩
    have hB := Lib.hid (((Below.refl w.heap.size w).alloc (Nat.le_refl _) _).trans (hb.mono (by simp)))
    go_wp2
    go_ret
    exact ⟨rfl, hB.out⟩
  · go_wp2_with fail
    obtain ⟨W, hW⟩ : ∃ W, W = w.alloc (.cells #[.int .i64 f.C, .slice A f.xs.length c, .int .i64 f.R, .int .i64 f.T] 24) := ⟨_, rfl⟩
    rw [← hW]
    have b0 : Bk W w.heap.size 24 #[.int .i64 f.C, .slice A f.xs.length c, .int .i64 f.R, .int .i64 f.T] := by rw [hW]; exact Bk.new _ _ _
    have hbW : Below w.heap.size w W := by rw [hW]; exact (Below.refl _ _).alloc (Nat.le_refl _) _
    have hxW := HX.out.below hbW
    clear hW
    refine (check_any f.C A f.xs c f.R f.T W hxW).mono ?_
    rintro e w1 ⟨rfl, hb1⟩
    have c0 := b0.below hb1 b0.lt
    have hbw1 : Below w.heap.size w w1 := hbW.trans (hb1.mono hbW.size)
    have hx1 := hxW.below hb1
    have k0 := c0.cell 0; have k1 := c0.cell 1; have k2 := c0.cell 2; have k3 := c0.cell 3
    have C0 := Lib.hid c0; have HB1 := Lib.hid hbw1; have HX1 := Lib.hid hx1
    clear b0 hbW hxW hb1 c0 hbw1 hx1
    simp at k0 k1 k2 k3
    cases hc : checkS f.C f.xs f.R f.T
    · go_wp2_with fail
      refine (live12 _).mono ?_
      rintro e w' ⟨rfl, hb⟩
      have hB := Lib.hid (HB1.out.trans (hb.mono HB1.out.size))
      go_wp2
      go_ret
      exact ⟨rfl, hB.out⟩
    · have hm1 : mayS 4607182418800017408 = true := by decide +kernel
      go_wp2_with fail
      have hfa := factor_any f A c 4607182418800017408 w1 HX1.out
      refine hfa.mono ?_
      clear hfa
      rintro e w2 ⟨⟨v, rfl, A2, c2, rfl, hs2, _⟩, hb2⟩
      unfold facV
      have c2' := C0.out.below hb2 C0.out.lt
      have hlt2 := c2'.lt
      have k0 := c2'.cell 0; have k1 := c2'.cell 1; have k2 := c2'.cell 2; have k3 := c2'.cell 3
      simp at k0 k1 k2 k3
      have HC2 := Lib.hid c2'; have HB2 := Lib.hid (HB1.out.trans (hb2.mono HB1.out.size)); have HX2 := Lib.hid (HX1.out.below hb2); have HS2 := Lib.hid hs2
      clear c2' hb2 hs2
      by_cases hT : 4096 ≤ f.T
      · have hE : oftenE f 4607182418800017408 1 = 6 := by
          unfold oftenE
          rw [if_neg (by rw [show f.ok = true from hc]; simp), if_neg (by rw [hm1]; simp), if_pos (by omega)]
        rw [hE]
        generalize oftenF f 4607182418800017408 1 = F at *
        go_wp2_with fail
        refine (live12 _).mono ?_
        rintro e w' ⟨rfl, hb⟩
        have hB := Lib.hid ((HB2.out.alloc HB2.out.size _).trans (hb.mono (by have := HB2.out.size; simp; omega)))
        go_wp2
        go_ret
        exact ⟨rfl, hB.out⟩
      · have hE : oftenE f 4607182418800017408 1 = 0 := oftenE_ok.2 ⟨hc, by omega, hm1, by omega⟩
        have hF : oftenF f 4607182418800017408 1 = ⟨f.C, f.xs, f.R, f.T + 1⟩ := by
          unfold oftenF
          rw [if_pos hE]
          have h1 : fadeN 4607182418800017408 (1 : Int).toNat f.xs = f.xs := fadeL_one fun x hx => ⟨small_fin (check_small' hc hx), HX.out.reads.1 x hx⟩
          rw [h1]
        rw [hF] at HS2
        rw [hE, hF]
        have hT0 : 0 ≤ f.T := (check_len hc).2.2.2.2.2.1
        clear hE hF
        go_wp2_with fail
        have hall := all_same A2 A f.xs c2 c (w2.alloc (.cells #[.int .i64 f.C, .slice A2 f.xs.length c2, .int .i64 f.R, .int .i64 (f.T + 1)] 24)) (HS2.out.below ((Below.refl _ _).alloc (Nat.le_refl _) _)) (HX2.out.below ((Below.refl _ _).alloc (Nat.le_refl _) _))
        refine hall.mono ?_
        clear hall
        rintro e w3 ⟨rfl, n, rfl⟩
        go_wp2_with fail
        refine (live12 _).mono ?_
        rintro e w' ⟨rfl, hb⟩
        have hB := Lib.hid (((HB2.out.alloc HB2.out.size _).drewN n).trans (hb.mono (by have := HB2.out.size; show w.heap.size ≤ (w2.alloc _).heap.size; rw [World.size_alloc]; omega)))
        go_wp2
        go_ret
        exact ⟨rfl, hB.out⟩
end Go.Proofs.Ytlkgkgnkmjbnjaa
