/- The walks of InverseTells, InverseErrors. -/
import Derived.Test.YtigacobphgeeaaaXq9
import Derived.Test.YtigacobphgeeaaaC9
set_option linter.unusedVariables false
namespace Go.Proofs.Ytigacobphgeeaaa
open Go.RowKit Go.Shelf Lev

set_option maxRecDepth 100000 in
set_option maxHeartbeats 4000000 in
theorem inverseErrors (f : Fct) (A : Option Addr) (c : Nat) (w : World) (hx : SlArg w A f.xs c) :
    Calls Try.prog 4 #[facV f.C A f.xs.length c f.R f.T] w fun e w' => e = .returned (.bool true) ∧ Below w.heap.size w w' := by
  have HLV := Lib.hid (fun W => live18 W)
  have k0 := ((Keep.start w).more hx).alloc #[.int .i64 f.C, .slice A f.xs.length c, .int .i64 f.R, .int .i64 f.T] 24
  have K0 := Lib.hid k0
  have hl63 : f.xs.length ≤ 9223372036854775807 := Nat.le_trans hx.cap hx.room
  have he1 := fun W h => Errors_any f A c W h
  have he2 := fun W h => Errors18_any f A c W h
  unfold Err18P at he2
  have hll : (errL f).length ≤ 1000 := by
    unfold errL
    split
    · rw [List.length_map, List.length_range]
      rename_i h
      have hok : f.ok = true := by
        unfold errE at h
        cases h9 : f.ok
        · rw [stE_no h9, if_pos (by decide)] at h; exact absurd h (by decide)
        · rfl
      have := ok_len hok
      omega
    · exact Nat.zero_le _
  unfold facV at he1 he2 ⊢
  have HE1 := Lib.hid he1; have HE2 := Lib.hid he2
  generalize errL f = L at *
  generalize errE f = E at *
  clear hx he1 he2 k0
  by_cases h60 : (60 : Int) < (f.xs.length : Int)
  · go_enter Try.func4, Try.ntmps4
    go_wp2_with fail
    refine (HLV.out _).mono ?_
    rintro e w1 ⟨rfl, hb⟩
    have HB := Lib.hid (K0.out.call hb).below
    clear hb
    go_wp2
    go_ret
    exact ⟨rfl, HB.out⟩
  · go_enter Try.func4, Try.ntmps4
    go_wp2_with fail
    refine (HE1.out _ (K0.out.arg (.head _))).mono ?_
    rintro e w1 ⟨⟨v, rfl, A1, c1, rfl, hs1, _⟩, hb⟩
    have K1 := Lib.hid ((K0.out.call hb).more hs1)
    obtain ⟨r0, r1, r2, r3⟩ := (K1.out.box (.head _)).c4
    clear hb hs1
    go_wp2_with fail
    refine (HE2.out _ (K1.out.arg (.tail _ (.head _)))).mono ?_
    rintro e w2 ⟨⟨v, rfl, A2, c2, rfl, hs2, _⟩, hb⟩
    have K2 := Lib.hid ((K1.out.call hb).more hs2)
    clear hb hs2 r0 r1 r2 r3
    go_wp2_with fail
    refine (all_same A1 A2 L c1 c2 _ (K2.out.arg (.tail _ (.head _))) (K2.out.arg (.head _))).mono ?_
    rintro e w3 ⟨rfl, t, rfl⟩
    have K3 := Lib.hid (K2.out.drewN t)
    go_wp2_with fail
    refine (HLV.out _).mono ?_
    rintro e w4 ⟨rfl, hb⟩
    have HB := Lib.hid (K3.out.call hb).below
    clear hb
    go_wp2
    go_ret
    exact ⟨rfl, HB.out⟩
end Go.Proofs.Ytigacobphgeeaaa
