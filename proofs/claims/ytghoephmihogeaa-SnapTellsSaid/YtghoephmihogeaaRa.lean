/- Walks of the laws SnapFloats, SnapFloatBack. -/
import Derived.Test.YtghoephmihogeaaSl
import Derived.Test.YtghoephmihogeaaBh
set_option linter.unusedVariables false
namespace Go.Proofs.Ytghoephmihogeaa
open Go.RowKit Go.Shelf Lev

theorem same_self (a : Nat) (ha : a < 18446744073709551616) (w : World) :
    Calls Try.prog 15 #[.float .f64 a, .float .f64 a] w fun e w' => e = .returned (.bool true) ∧ w = w' := by
  have h := rsame_any a a ha ha w
  rwa [show sameS a a = true from by unfold sameS; exact beq_self_eq_true _] at h

set_option maxRecDepth 100000 in
set_option maxHeartbeats 2000000 in
theorem wfloats (x : Nat) (s : ByteArray) (i : Int) (w : World) (hx : x < 18446744073709551616) (hs : s.size ≤ maxLen) (hi : -9223372036854775808 ≤ i ∧ i ≤ 9223372036854775807) :
    Calls Try.prog 3 #[.float .f64 x, .string s, .int .i64 i] w fun e w' => e = .returned (.bool true) ∧ Below w.heap.size w w' := by
  have HL := Lib.hid (fun W => live15 W)
  by_cases h2 : (s.size : Int) > 200
  · go_enter Try.func3, Try.ntmps3
    go_wp2_with fail
    refine (HL.out _).mono ?_
    rintro e w1 ⟨rfl, hb1⟩
    have B1 := Lib.hid hb1
    clear hb1
    go_wp2
    go_ret
    exact ⟨rfl, B1.out⟩
  · have hg1 := fun W => sget_any s i (by omega) W
    have hg2 := fun W => docget_any s i (by omega) W
    unfold getV at hg1 hg2
    have HG1 := Lib.hid hg1; have HG2 := Lib.hid hg2
    have HS := Lib.hid (fun W => same_self (getF (bl s) i) (getF_lt _ _) W)
    have HP1 := Lib.hid (fun W => sput_any x hx W)
    have HP2 := Lib.hid (fun W => rput_any x hx W)
    clear hg1 hg2 hx
    generalize getF (bl s) i = v at *
    generalize getB (bl s) i = b at *
    obtain ⟨q, hq⟩ : ∃ q : ByteArray, q = ⟨(putL x).toArray⟩ := ⟨_, rfl⟩
    rw [← hq] at HP1 HP2
    clear hq
    go_enter Try.func3, Try.ntmps3
    go_wp2_with fail
    refine (HG1.out _).mono ?_
    rintro e w1 ⟨rfl, hb1⟩
    have B1 := Lib.hid hb1
    clear hb1
    go_wp2_with fail
    refine (HG2.out _).mono ?_
    rintro e w' ⟨rfl, rfl⟩
    go_wp2_with fail
    refine (HP1.out _).mono ?_
    rintro e w2 ⟨rfl, hb2⟩
    have B2 := Lib.hid (Below.chain B1.out hb2)
    clear hb2 B1
    go_wp2_with fail
    refine (HP2.out _).mono ?_
    rintro e w3 ⟨rfl, hb3⟩
    have B3 := Lib.hid (Below.chain B2.out hb3)
    clear hb3 B2
    go_wp2_with fail
    refine (HS.out _).mono ?_
    rintro e w' ⟨rfl, rfl⟩
    go_wp2_with fail
    refine (HL.out _).mono ?_
    rintro e w4 ⟨rfl, hb4⟩
    have B4 := Lib.hid (Below.chain B3.out hb4)
    clear hb4 B3
    go_wp2
    go_ret
    exact ⟨rfl, B4.out⟩

theorem bl_app (p q : ByteArray) : bl (p ++ q) = bl p ++ bl q := by unfold bl; simp
theorem getN_mid (a b : List UInt8) (x : Nat) (hx : x < 18446744073709551616) : getN (a ++ put8 x ++ b) a.length = x := by
  unfold getN
  rw [bN_congr (g := wB x) (fun i hi => ?_)]
  · exact bN_wB8 hx
  · show lg (a ++ put8 x ++ b) (a.length + i) = wB x i
    rw [← put8_get hi]
    unfold lg
    rw [List.append_assoc, List.getElem?_append_right (Nat.le_add_right _ _), Nat.add_sub_cancel_left, List.getElem?_append_left (by rw [put8_len]; exact hi)]
theorem getV_mid (p q : ByteArray) (x : Nat) (hx : x < 18446744073709551616) (hf : fin x) : getV (p ++ ⟨(put8 x).toArray⟩ ++ q) (p.size : Int) = .tuple #[.float .f64 x, .bool true] := by
  have hb : bl (p ++ ⟨(put8 x).toArray⟩ ++ q) = bl p ++ put8 x ++ bl q := by rw [bl_app, bl_app]; rfl
  have hn : getN (bl (p ++ ⟨(put8 x).toArray⟩ ++ q)) ((p.size : Int)).toNat = x := by
    rw [hb, Int.toNat_natCast, ← bl_len p]; exact getN_mid _ _ x hx
  have hB : getB (bl (p ++ ⟨(put8 x).toArray⟩ ++ q)) (p.size : Int) = true := by
    refine decide_eq_true ⟨by omega, ?_, by rw [hn]; exact hf⟩
    rw [hb, List.length_append, List.length_append, put8_len, bl_len]; omega
  unfold getV getF
  rw [hB, if_pos rfl, hn]

set_option maxRecDepth 100000 in
set_option maxHeartbeats 2000000 in
theorem wback_long (x : Nat) (p q : ByteArray) (w : World) (h : (p.size : Int) > 200 ∨ (q.size : Int) > 200) :
    Calls Try.prog 5 #[.float .f64 x, .string p, .string q] w fun e w' => e = .returned (.bool true) ∧ Below w.heap.size w w' := by
  have HL := Lib.hid (fun W => live15 W)
  by_cases h1 : (p.size : Int) > 200
  · clear h
    go_enter Try.func5, Try.ntmps5
    go_wp2_with fail
    refine (HL.out _).mono ?_
    rintro e w1 ⟨rfl, hb1⟩
    have B1 := Lib.hid hb1
    clear hb1
    go_wp2
    go_ret
    exact ⟨rfl, B1.out⟩
  · have h2 : (q.size : Int) > 200 := by omega
    clear h
    go_enter Try.func5, Try.ntmps5
    go_wp2_with fail
    refine (HL.out _).mono ?_
    rintro e w1 ⟨rfl, hb1⟩
    have B1 := Lib.hid hb1
    clear hb1
    go_wp2
    go_ret
    exact ⟨rfl, B1.out⟩

set_option maxRecDepth 100000 in
set_option maxHeartbeats 2000000 in
theorem wback_no (x : Nat) (p q : ByteArray) (w : World) (hx : x < 18446744073709551616) (h1 : (p.size : Int) ≤ 200) (h2 : (q.size : Int) ≤ 200) (hf : ¬ fin x) :
    Calls Try.prog 5 #[.float .f64 x, .string p, .string q] w fun e w' => e = .returned (.bool true) ∧ Below w.heap.size w w' := by
  have HL := Lib.hid (fun W => live15 W)
  have hp := fun W => sput_any x hx W
  rw [show putL x = [] from by unfold putL; rw [if_neg hf]] at hp
  have HP := Lib.hid hp
  have hk : ¬ kindS x ≤ 1 := fun h => hf (kindS_le.1 h)
  have hk2 : decide (1 < kindS x) = true := decide_eq_true (by omega)
  have hs := fun W => rsplit_any x hx W
  unfold splitV at hs
  have HS := Lib.hid hs
  clear hp hk hs hf hx
  go_enter Try.func5, Try.ntmps5
  go_wp2_with fail
  refine (HP.out _).mono ?_
  rintro e w1 ⟨rfl, hb1⟩
  have B1 := Lib.hid hb1
  clear hb1
  go_wp2_with fail
  refine (HS.out _).mono ?_
  rintro e w' ⟨rfl, rfl⟩
  go_wp2_with fail
  refine (HL.out _).mono ?_
  rintro e w2 ⟨rfl, hb2⟩
  have B2 := Lib.hid (Below.chain B1.out hb2)
  clear hb2 B1
  go_wp2
  go_ret
  exact ⟨rfl, B2.out⟩

set_option maxRecDepth 100000 in
set_option maxHeartbeats 2000000 in
theorem wback_yes (x : Nat) (p q : ByteArray) (w : World) (hx : x < 18446744073709551616) (h1 : (p.size : Int) ≤ 200) (h2 : (q.size : Int) ≤ 200) (hf : fin x) :
    Calls Try.prog 5 #[.float .f64 x, .string p, .string q] w fun e w' => e = .returned (.bool true) ∧ Below w.heap.size w w' := by
  have HL := Lib.hid (fun W => live15 W)
  have hp := fun W => sput_any x hx W
  rw [putL_fin hf] at hp
  have hgv := getV_mid p q x hx hf
  obtain ⟨S, hS⟩ : ∃ S : ByteArray, S = ⟨(put8 x).toArray⟩ := ⟨_, rfl⟩
  have hS8 : S.size = 8 := by rw [hS]; exact put8_len x
  rw [← hS] at hp hgv
  have hsz : (p ++ S ++ q).size ≤ 1000 := by rw [ByteArray.size_append, ByteArray.size_append, hS8]; omega
  have HG := Lib.hid (fun W => get_is hgv hsz W)
  have HP := Lib.hid hp
  have hk : kindS x ≤ 1 := kindS_le.2 hf
  have hk2 : decide (1 < kindS x) = false := decide_eq_false (by omega)
  have hs := fun W => rsplit_any x hx W
  unfold splitV at hs
  have HS := Lib.hid hs
  have HX := Lib.hid (fun W => same_self x hx W)
  clear hp hk hs hf hx hgv hsz hS
  have n1 : p.size + 8 ≤ 9223372036854775807 := by omega
  have n2 : p.size + 8 + q.size ≤ 9223372036854775807 := by omega
  go_enter Try.func5, Try.ntmps5
  go_wp2_with fail
  refine (HP.out _).mono ?_
  rintro e w1 ⟨rfl, hb1⟩
  have B1 := Lib.hid hb1
  clear hb1
  go_wp2_with fail
  refine (HS.out _).mono ?_
  rintro e w' ⟨rfl, rfl⟩
  go_wp2_with fail
  refine (HG.out _).mono ?_
  rintro e w2 ⟨rfl, hb2⟩
  have B2 := Lib.hid (Below.chain B1.out hb2)
  clear hb2 B1
  go_wp2_with fail
  refine (HX.out _).mono ?_
  rintro e w' ⟨rfl, rfl⟩
  go_wp2_with fail
  refine (HL.out _).mono ?_
  rintro e w3 ⟨rfl, hb3⟩
  have B3 := Lib.hid (Below.chain B2.out hb3)
  clear hb3 B2
  go_wp2
  go_ret
  exact ⟨rfl, B3.out⟩

theorem wfloatback (x : Nat) (p q : ByteArray) (w : World) (hx : x < 18446744073709551616) (hp : p.size ≤ maxLen) (hq : q.size ≤ maxLen) :
    Calls Try.prog 5 #[.float .f64 x, .string p, .string q] w fun e w' => e = .returned (.bool true) ∧ Below w.heap.size w w' := by
  by_cases h : (p.size : Int) > 200 ∨ (q.size : Int) > 200
  · exact wback_long x p q w h
  · by_cases hf : fin x
    · exact wback_yes x p q w hx (by omega) (by omega) hf
    · exact wback_no x p q w hx (by omega) (by omega) hf

end Go.Proofs.Ytghoephmihogeaa
