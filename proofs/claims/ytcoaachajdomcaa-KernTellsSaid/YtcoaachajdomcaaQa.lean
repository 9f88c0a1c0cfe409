/- The walk of KernTells. -/
import Derived.Test.YtcoaachajdomcaaGe
import Derived.Test.YtcoaachajdomcaaGg
import Derived.Test.YtcoaachajdomcaaGh
import Derived.Test.YtcoaachajdomcaaCe
import Derived.Test.YtcoaachajdomcaaMf
namespace Lev
theorem dotF_lt (xs ys : List Nat) (hl : xs.length ≤ 40) : dotF xs ys < 18446744073709551616 := by
  unfold dotF
  split
  · rename_i h
    exact (sumT_bd (E := 800) (by decide) (by decide) xs.length (by omega) (fun i hi => dotT_bd h hi)).2.2
  · decide
theorem sumF_lt (xs : List Nat) (hl : xs.length ≤ 40) : sumF xs < 18446744073709551616 := by
  unfold sumF
  split
  · rename_i h
    exact (sumT_bd (E := 400) (by decide) (by decide) xs.length (by omega) (fun i hi => absT_bd h hi)).2.2
  · decide
theorem normF_lt (xs : List Nat) : normF xs < 18446744073709551616 := by
  unfold normF
  split
  · have h1 := (rr_spec (mul_pw_nonneg (sqrtF (sumT (sqT xs (normK xs)) xs.length)) (normK xs))).1
    have := INF_eq
    unfold ldS
    exact word_lt64 _ _ (by omega)
  · decide
end Lev
namespace Go.Proofs.Ytcoaachajdomcaa
open Go.RowKit Go.Shelf Lev

set_option maxRecDepth 100000 in
set_option maxHeartbeats 2000000 in
theorem kernTells (q : Nat) (xs : List Nat) (A : Option Addr) (c : Nat) (ys : List Nat) (B : Option Addr) (d : Nat) (w : World) (hq : q < 18446744073709551616) (hx : SlArg w A xs c) (hy : SlArg w B ys d) :
    Calls Try.prog 3 #[.float .f64 q, .slice A xs.length c, .slice B ys.length d] w fun e w' => e = .returned (.bool true) ∧ Below w.heap.size w w' := by
  have hl63 : xs.length ≤ 9223372036854775807 := Nat.le_trans hx.cap hx.room
  have hl64 : ys.length ≤ 9223372036854775807 := Nat.le_trans hy.cap hy.room
  have HLV := Lib.hid (live05 w)
  by_cases h1 : (40 : Int) < (xs.length : Int)
  · clear hx hy
    go_enter Try.func3, Try.ntmps3
    go_wp2_with fail
    refine HLV.out.mono ?_
    rintro e w' ⟨rfl, hb⟩
    have HB := Lib.hid hb
    clear hb
    go_wp2
    go_ret
    exact ⟨rfl, HB.out⟩
  by_cases h2 : (40 : Int) < (ys.length : Int)
  · clear hx hy
    go_enter Try.func3, Try.ntmps3
    go_wp2_with fail
    refine HLV.out.mono ?_
    rintro e w' ⟨rfl, hb⟩
    have HB := Lib.hid hb
    clear hb
    go_wp2
    go_ret
    exact ⟨rfl, HB.out⟩
  have hl : xs.length ≤ 40 := by omega
  have hd := dotF_lt xs ys hl
  have hs := sumF_lt xs hl
  have hn := normF_lt xs
  have K0 := ((Keep.start w).more hx).more hy
  have c1 := fun W hX hY => kdot_any A xs c B ys d W hX hY hl
  have c2 := fun W hX hY => rkdot_any A xs c B ys d W hX hY hl
  have c3 := fun W hX hY => kaxpy_any q hq A xs c B ys d W hX hY hl
  have c4 := fun W hX hY => rkaxpy_any q hq A xs c B ys d W hX hY hl
  have c5 := fun W hX => ksum_any A xs c W hX hl
  have c6 := fun W hX => rksum_any A xs c W hX hl
  have c7 := fun W hX => knorm_any A xs c W hX hl
  have c8 := fun W hX => rknorm_any A xs c W hX hl
  have c9 := fun W hX => kall_any A xs c W hX
  have c10 := fun W hX => rkall_any A xs c W hX
  generalize dotF xs ys = dv at *
  generalize sumF xs = sv at *
  generalize normF xs = nv at *
  generalize fitS xs ys = fb at *
  generalize allIn xs = ab at *
  generalize axB q xs ys = xb at *
  generalize axF q xs ys = zs at *
  have e1 := fun W => rsame_any dv dv hd hd W
  have e2 := fun W => rsame_any sv sv hs hs W
  have e3 := fun W => rsame_any nv nv hn hn W
  rw [sameS_self] at e1 e2 e3
  have C1 := Lib.hid c1; have C2 := Lib.hid c2; have C3 := Lib.hid c3; have C4 := Lib.hid c4; have C5 := Lib.hid c5; have C6 := Lib.hid c6; have C7 := Lib.hid c7; have C8 := Lib.hid c8; have C9 := Lib.hid c9; have C10 := Lib.hid c10
  have E1 := Lib.hid e1; have E2 := Lib.hid e2; have E3 := Lib.hid e3
  clear c1 c2 c3 c4 c5 c6 c7 c8 c9 c10 e1 e2 e3 hd hs hn hx hy HLV
  go_enter Try.func3, Try.ntmps3
  go_wp2_with fail
  refine (C1.out _ (K0.arg (.tail _ (.head _))) (K0.arg (.head _))).mono ?_
  rintro e w1 ⟨rfl, hb1⟩
  have K1 := K0.call hb1
  clear K0 hb1
  go_wp2_with fail
  refine (C2.out _ (K1.arg (.tail _ (.head _))) (K1.arg (.head _))).mono ?_
  rintro e w' ⟨rfl, n2, rfl⟩
  have K2 := K1.call (Below.drewN (Below.refl _ _) n2)
  clear K1
  go_wp2_with fail
  refine (C3.out _ (K2.arg (.tail _ (.head _))) (K2.arg (.head _))).mono ?_
  rintro e w3 ⟨⟨R3, m3, rfl, hs3⟩, hb3⟩
  have K3 := (K2.call hb3).more hs3
  clear K2 hb3 hs3
  go_wp2_with fail
  refine (C4.out _ (K3.arg (.tail _ (.tail _ (.head _)))) (K3.arg (.tail _ (.head _)))).mono ?_
  rintro e w4 ⟨⟨R4, m4, rfl, hs4⟩, hb4⟩
  have K4 := (K3.call hb4).more hs4
  clear K3 hb4 hs4
  go_wp2_with fail
  refine (C5.out _ (K4.arg (.tail _ (.tail _ (.tail _ (.head _)))))).mono ?_
  rintro e w5 ⟨rfl, hb5⟩
  have K5 := K4.call hb5
  clear K4 hb5
  go_wp2_with fail
  refine (C6.out _ (K5.arg (.tail _ (.tail _ (.tail _ (.head _)))))).mono ?_
  rintro e w' ⟨rfl, rfl⟩
  go_wp2_with fail
  refine (C7.out _ (K5.arg (.tail _ (.tail _ (.tail _ (.head _)))))).mono ?_
  rintro e w7 ⟨rfl, hb7⟩
  have K7 := K5.call hb7
  clear K5 hb7
  go_wp2_with fail
  refine (C8.out _ (K7.arg (.tail _ (.tail _ (.tail _ (.head _)))))).mono ?_
  rintro e w' ⟨rfl, n8, rfl⟩
  have K8 := K7.call (Below.drewN (Below.refl _ _) n8)
  clear K7
  go_wp2_with fail
  refine (E1.out _).mono ?_
  rintro e w' ⟨rfl, rfl⟩
  go_wp2_with fail
  refine (all_same R3 R4 zs m3 m4 _ (K8.arg (.tail _ (.head _))) (K8.arg (.head _))).mono ?_
  rintro e w' ⟨rfl, n9, rfl⟩
  have K9 := K8.call (Below.drewN (Below.refl _ _) n9)
  rw [World.drewN_drewN] at K9
  clear K8
  go_wp2_with fail
  refine (E2.out _).mono ?_
  rintro e w' ⟨rfl, rfl⟩
  go_wp2_with fail
  refine (E3.out _).mono ?_
  rintro e w' ⟨rfl, rfl⟩
  go_wp2_with fail
  refine (C9.out _ (K9.arg (.tail _ (.tail _ (.tail _ (.head _)))))).mono ?_
  rintro e w' ⟨rfl, rfl⟩
  go_wp2_with fail
  refine (C10.out _ (K9.arg (.tail _ (.tail _ (.tail _ (.head _)))))).mono ?_
  rintro e w' ⟨rfl, rfl⟩
  go_wp2_with fail
  refine (live05 _).mono ?_
  rintro e w' ⟨rfl, hb⟩
  have HB := Lib.hid (Below.chain K9.below hb)
  clear hb K9
  go_wp2
  go_ret
  exact ⟨rfl, HB.out⟩

end Go.Proofs.Ytcoaachajdomcaa
