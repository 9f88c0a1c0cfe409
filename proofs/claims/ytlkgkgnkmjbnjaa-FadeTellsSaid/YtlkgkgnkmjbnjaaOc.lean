/- The walk of FadeTells. -/
import Derived.Test.YtlkgkgnkmjbnjaaDk
import Derived.Test.YtlkgkgnkmjbnjaaDj
namespace Go.Proofs.Ytlkgkgnkmjbnjaa
open Go.RowKit Go.Shelf Lev

set_option maxRecDepth 100000 in
set_option maxHeartbeats 2000000 in
theorem fadeTells (f : Fct) (A : Option Addr) (c : Nat) (b : Nat) (k : Int) (w : World) (hx : SlArg w A f.xs c) (_hb : b < 18446744073709551616) (hk : -9223372036854775808 ≤ k ∧ k ≤ 9223372036854775807) :
    Calls Try.prog 3 #[facV f.C A f.xs.length c f.R f.T, .float .f64 b, .int .i64 k] w fun e w' => e = .returned (.bool true) ∧ Below w.heap.size w w' := by
  have hl63 : f.xs.length ≤ 9223372036854775807 := Nat.le_trans hx.cap hx.room
  have K0 := ((Keep.start w).more hx).alloc #[.int .i64 f.C, .slice A f.xs.length c, .int .i64 f.R, .int .i64 f.T] 24
  have h1 := fun W h => factor_any f A c b W h
  have h2 := fun W h => rfac_any f A c b W h
  have h3 := fun W h => often_any f A c b k W h
  have h4 := fun W h => rOften_any f A c b k W h hk
  unfold facV at h1 h2 h3 h4
  have H1 := Lib.hid h1; have H2 := Lib.hid h2; have H3 := Lib.hid h3; have H4 := Lib.hid h4
  have H5 := Lib.hid (may_any b); have H6 := Lib.hid (rmay_any b)
  clear h1 h2 h3 h4 hx
  generalize oftenE f b 1 = e1 at *
  generalize oftenF f b 1 = f1 at *
  generalize oftenE f b k = e2 at *
  generalize oftenF f b k = f2 at *
  generalize mayS b = mb at *
  unfold facV
  have hcs : ((60 : Int) < (f.xs.length : Int)) ∨ (¬ (60 : Int) < (f.xs.length : Int) ∧ 40 < k ∧ k < 1000000) ∨ (¬ (60 : Int) < (f.xs.length : Int) ∧ ¬ 40 < k) ∨ (¬ (60 : Int) < (f.xs.length : Int) ∧ 40 < k ∧ ¬ k < 1000000) := by omega
  rcases hcs with a1 | ⟨a1, a2, a3⟩ | ⟨a1, a2⟩ | ⟨a1, a2, a3⟩
  iterate 2
    · go_enter Try.func3, Try.ntmps3
      go_wp2_with fail
      refine (live12 _).mono ?_
      rintro e w' ⟨rfl, hb⟩
      have HB := Lib.hid (Below.add K0.below hb)
      clear hb
      go_wp2
      go_ret
      exact ⟨rfl, HB.out⟩
  all_goals
    go_enter Try.func3, Try.ntmps3
    go_wp2_with fail
    refine named ?_
    intro W hW
    rw [← hW] at K0
    clear hW
    refine (H1.out _ (K0.arg (.head _))).mono ?_
    rintro e w1 ⟨⟨v, rfl, A1, c1, rfl, hs1, _⟩, hb1⟩
    unfold facV
    have K1 := (K0.call hb1).more hs1
    clear K0 hb1 hs1
    obtain ⟨r0, r1, r2, r3⟩ := (K1.box (.head _)).c4
    have hl1 := (K1.box (.head _)).lt
    go_wp2_with fail
    refine named ?_
    intro W1 hW1
    have K1 := K1.alloc #[.int .i64 f1.C, .slice A1 f1.xs.length c1, .int .i64 f1.R, .int .i64 f1.T] 24
    rw [← hW1] at K1
    clear hW1 r0 r1 r2 r3 hl1
    refine (H2.out _ (K1.arg (.tail _ (.head _)))).mono ?_
    rintro e w2 ⟨⟨v, rfl, A2, c2, rfl, hs2, _⟩, hb2⟩
    unfold facV
    have K2 := (K1.call hb2).more hs2
    clear K1 hb2 hs2
    obtain ⟨r0, r1, r2, r3⟩ := (K2.box (.tail _ (.head _))).c4
    have hl1 := (K2.box (.tail _ (.head _))).lt
    go_wp2_with fail
    refine named ?_
    intro W2 hW2
    have K2 := K2.alloc #[.int .i64 f1.C, .slice A2 f1.xs.length c2, .int .i64 f1.R, .int .i64 f1.T] 24
    rw [← hW2] at K2
    clear hW2 r0 r1 r2 r3 hl1
    refine (H3.out _ (K2.arg (.tail _ (.tail _ (.head _))))).mono ?_
    rintro e w3 ⟨⟨v, rfl, A3, c3, rfl, hs3, _⟩, hb3⟩
    unfold facV
    have K3 := (K2.call hb3).more hs3
    clear K2 hb3 hs3
    obtain ⟨r0, r1, r2, r3⟩ := (K3.box (.tail _ (.tail _ (.head _)))).c4
    have hl1 := (K3.box (.tail _ (.tail _ (.head _)))).lt
    go_wp2_with fail
    refine named ?_
    intro W3 hW3
    have K3 := K3.alloc #[.int .i64 f2.C, .slice A3 f2.xs.length c3, .int .i64 f2.R, .int .i64 f2.T] 24
    rw [← hW3] at K3
    clear hW3 r0 r1 r2 r3 hl1
    refine (H4.out _ (K3.arg (.tail _ (.tail _ (.tail _ (.head _)))))).mono ?_
    rintro e w4 ⟨⟨v, rfl, A4, c4, rfl, hs4, _⟩, hb4⟩
    unfold facV
    have K4 := (K3.call hb4).more hs4
    clear K3 hb4 hs4
    obtain ⟨r0, r1, r2, r3⟩ := (K4.box (.tail _ (.tail _ (.head _)))).c4
    obtain ⟨s0, s1, s2, s3⟩ := (K4.box (.tail _ (.head _))).c4
    have hl1 := (K4.box (.tail _ (.tail _ (.head _)))).lt
    have hl2 := (K4.box (.tail _ (.head _))).lt
    go_wp2_with fail
    refine (H5.out _).mono ?_
    rintro e w' ⟨rfl, rfl⟩
    go_wp2_with fail
    refine (H6.out _).mono ?_
    rintro e w' ⟨rfl, rfl⟩
    go_wp2_with fail
    refine named ?_
    intro W4 hW4
    have K4 := K4.alloc #[.int .i64 f2.C, .slice A4 f2.xs.length c4, .int .i64 f2.R, .int .i64 f2.T] 24
    rw [← hW4] at K4
    clear hW4 r0 r1 r2 r3 s0 s1 s2 s3 hl1 hl2
    have hsa := fac_same f1 A1 A2 c1 c2 W4 (K4.arg (.tail _ (.tail _ (.tail _ (.head _))))) (K4.arg (.tail _ (.tail _ (.head _))))
    unfold facV at hsa
    refine hsa.mono ?_
    clear hsa
    rintro e w5 ⟨rfl, hb5⟩
    have K5 := K4.call hb5
    clear K4 hb5
    obtain ⟨r0, r1, r2, r3⟩ := (K5.box (.tail _ (.head _))).c4
    obtain ⟨s0, s1, s2, s3⟩ := (K5.box (.head _)).c4
    go_wp2_with fail
    have hsa := fac_same f2 A3 A4 c3 c4 w5 (K5.arg (.tail _ (.head _))) (K5.arg (.head _))
    unfold facV at hsa
    refine hsa.mono ?_
    clear hsa r0 r1 r2 r3 s0 s1 s2 s3
    rintro e w6 ⟨rfl, hb6⟩
    have K6 := (K5.call hb6).below
    clear K5 hb6
    go_wp2_with fail
    refine (live12 _).mono ?_
    rintro e w' ⟨rfl, hb⟩
    have HB := Lib.hid (Below.add K6 hb)
    clear hb
    go_wp2
    go_ret
    exact ⟨rfl, HB.out⟩

end Go.Proofs.Ytlkgkgnkmjbnjaa
