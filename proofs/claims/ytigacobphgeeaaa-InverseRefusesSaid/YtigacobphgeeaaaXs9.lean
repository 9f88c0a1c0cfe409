/- The walk of InverseTells. -/
import Derived.Test.YtigacobphgeeaaaXr9
import Derived.Test.YtigacobphgeeaaaB9
set_option linter.unusedVariables false
namespace Go.Proofs.Ytigacobphgeeaaa
open Go.RowKit Go.Shelf Lev

theorem rsame_self (x : Nat) (hx : x < 18446744073709551616) (w : World) : Calls Try.prog 17 #[.float .f64 x, .float .f64 x] w fun e w' => e = .returned (.bool true) ∧ w = w' := by
  have h := rsame_any x x hx hx w
  rw [sameS_self] at h
  exact h
theorem oneV_lt (f : Fct) : oneV f < 18446744073709551616 := by
  unfold oneV
  split
  · next h =>
    have : oneS (gS f) f.C.toNat ≤ INF := maxL_pos _ (fun j _ => colL_pos (j + 1) (fun i _ => gS_fin h i j))
    have := INF_eq
    omega
  · decide
theorem condV_lt (f : Fct) : condV f < 18446744073709551616 := by
  unfold condV
  split
  · exact arS_lt _ _ _
  · decide
theorem rowsS_len (f : Fct) : (rowsS f).length ≤ 1000 := by
  unfold rowsS
  split
  · rename_i h
    have hok : f.ok = true := by
      unfold invE at h
      cases h9 : f.ok
      · rw [if_pos h9] at h; exact absurd h (by decide)
      · rfl
    have hc := ok_len hok
    have h1 := rowsL_len (wS (gS f)) f.C.toNat f.C.toNat
    have h2 := Nat.mul_le_mul (show f.C.toNat ≤ 6 by omega) (show f.C.toNat ≤ 6 by omega)
    omega
  · exact Nat.zero_le _

set_option maxRecDepth 100000 in
set_option maxHeartbeats 4000000 in
theorem inverseTells (f : Fct) (A : Option Addr) (c : Nat) (w : World) (hx : SlArg w A f.xs c) :
    Calls Try.prog 3 #[facV f.C A f.xs.length c f.R f.T] w fun e w' => e = .returned (.bool true) ∧ Below w.heap.size w w' := by
  have HLV := Lib.hid (fun W => live18 W)
  have k0 := ((Keep.start w).more hx).alloc #[.int .i64 f.C, .slice A f.xs.length c, .int .i64 f.R, .int .i64 f.T] 24
  have K0 := Lib.hid k0
  have hl63 : f.xs.length ≤ 9223372036854775807 := Nat.le_trans hx.cap hx.room
  have h1 := fun W h => Rows_any f A c W h
  have h2 := fun W h => rows18_any f A c W h
  have h3 := fun W h => One_any f A c W h
  have h4 := fun W h => One18_any f A c W h
  have h5 := fun W h => Cond_any f A c W h
  have h6 := fun W h => Cond18_any f A c W h
  have HS1 := Lib.hid (fun W => rsame_self (oneV f) (oneV_lt f) W)
  have HS2 := Lib.hid (fun W => rsame_self (condV f) (condV_lt f) W)
  unfold Rows18P at h2
  unfold facV at h1 h2 h3 h4 h5 h6 ⊢
  have H1 := Lib.hid h1; have H2 := Lib.hid h2; have H3 := Lib.hid h3; have H4 := Lib.hid h4; have H5 := Lib.hid h5; have H6 := Lib.hid h6
  generalize rowsS f = L at *
  generalize invE f = E1 at *
  generalize oneV f = V2 at *
  generalize oneE f = E2 at *
  generalize condV f = V3 at *
  generalize condE f = E3 at *
  clear hx h1 h2 h3 h4 h5 h6 k0
  by_cases h60 : (60 : Int) < (f.xs.length : Int)
  · go_enter Try.func3, Try.ntmps3
    go_wp2_with fail
    refine (HLV.out _).mono ?_
    rintro e w1 ⟨rfl, hb⟩
    have HB := Lib.hid (K0.out.call hb).below
    clear hb
    go_wp2
    go_ret
    exact ⟨rfl, HB.out⟩
  · go_enter Try.func3, Try.ntmps3
    go_wp2_with fail
    refine (H1.out _ (K0.out.arg (.head _))).mono ?_
    rintro e w1 ⟨⟨v, rfl, A1, c1, rfl, hs1, _⟩, hb⟩
    have K1 := Lib.hid ((K0.out.call hb).more hs1)
    obtain ⟨r0, r1, r2, r3⟩ := (K1.out.box (.head _)).c4
    clear hb hs1
    go_wp2_with fail
    refine (H2.out _ (K1.out.arg (.tail _ (.head _)))).mono ?_
    rintro e w2 ⟨⟨v, rfl, A2, c2, rfl, hs2, _⟩, hb⟩
    have K2 := Lib.hid ((K1.out.call hb).more hs2)
    clear hb hs2 r0 r1 r2 r3
    obtain ⟨r0, r1, r2, r3⟩ := (K2.out.box (.head _)).c4
    go_wp2_with fail
    refine (H3.out _ (K2.out.arg (.tail _ (.tail _ (.head _))))).mono ?_
    rintro e w3 ⟨rfl, hb⟩
    have K3 := Lib.hid (K2.out.call hb)
    clear hb r0 r1 r2 r3
    obtain ⟨r0, r1, r2, r3⟩ := (K3.out.box (.head _)).c4
    go_wp2_with fail
    refine (H4.out _ (K3.out.arg (.tail _ (.tail _ (.head _))))).mono ?_
    rintro e w4 ⟨rfl, hb⟩
    have K4 := Lib.hid (K3.out.call hb)
    clear hb r0 r1 r2 r3
    obtain ⟨r0, r1, r2, r3⟩ := (K4.out.box (.head _)).c4
    go_wp2_with fail
    refine (H5.out _ (K4.out.arg (.tail _ (.tail _ (.head _))))).mono ?_
    rintro e w5 ⟨rfl, hb⟩
    have K5 := Lib.hid (K4.out.call hb)
    clear hb r0 r1 r2 r3
    obtain ⟨r0, r1, r2, r3⟩ := (K5.out.box (.head _)).c4
    go_wp2_with fail
    refine (H6.out _ (K5.out.arg (.tail _ (.tail _ (.head _))))).mono ?_
    rintro e w6 ⟨rfl, hb⟩
    have K6 := Lib.hid (K5.out.call hb)
    clear hb r0 r1 r2 r3
    go_wp2_with fail
    refine (all_same A1 A2 L c1 c2 _ (K6.out.arg (.tail _ (.head _))) (K6.out.arg (.head _))).mono ?_
    rintro e w7 ⟨rfl, t, rfl⟩
    have K7 := Lib.hid (K6.out.drewN t)
    go_wp2_with fail
    refine (HS1.out _).mono ?_
    rintro e w8 ⟨rfl, rfl⟩
    go_wp2_with fail
    refine (HS2.out _).mono ?_
    rintro e w9 ⟨rfl, rfl⟩
    go_wp2_with fail
    refine (HLV.out _).mono ?_
    rintro e w10 ⟨rfl, hb⟩
    have HB := Lib.hid (K7.out.call hb).below
    clear hb
    go_wp2
    go_ret
    exact ⟨rfl, HB.out⟩
end Go.Proofs.Ytigacobphgeeaaa
