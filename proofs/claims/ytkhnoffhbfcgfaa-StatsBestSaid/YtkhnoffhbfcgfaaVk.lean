/- The walks of StatsTells and StatsMiss. -/
import Derived.Test.YtkhnoffhbfcgfaaVj
namespace Go.Proofs.Ytkhnoffhbfcgfaa
open Go.RowKit Go.Shelf Lev

attribute [local go_sem] run_store_float

theorem msV_lt (f : Fct) (xs : List Nat) : msV f xs < 18446744073709551616 := by
  unfold msV
  split
  · unfold msT
    unfold arS
    split
    · rename_i r h
      have h2 := floatBits_wf h
      have h3 : r < 18446744073709551616 := by simpa [Lit.wf] using h2
      unfold cn
      split
      · decide
      · exact h3
    · decide
  · decide

set_option maxRecDepth 100000 in
set_option maxHeartbeats 4000000 in
theorem statsTells (f : Fct) (A : Option Addr) (c : Nat) (w : World) (hx : SlArg w A f.xs c) :
    Calls Try.prog 3 #[facV f.C A f.xs.length c f.R f.T] w fun e w' => e = .returned (.bool true) ∧ Below w.heap.size w w' := by
  have hof := fun W h => sof_any f A c W h
  have hrf := fun W h => rof_any f A c W h
  have hsp := fun W h => sspread_any f A c W h
  have hrs := fun W h => rspread_any f A c W h
  obtain ⟨i, a, t, v, x, hst, _, hS, p1, p2, p3, p4, _⟩ := st_open f
  rw [hst] at hof hrf
  have HS1 := Lib.hid (fun W => rsame_any (spV f) (spV f) hS hS W)
  rw [sameS_self] at HS1
  have HSM := Lib.hid (fun W => rssame_any i a t v x p1 p2 p3 p4 W)
  have K0 := Lib.hid (((Keep.start w).more hx).alloc #[.int .i64 f.C, .slice A f.xs.length c, .int .i64 f.R, .int .i64 f.T] 24)
  unfold facV at hof hrf hsp hrs ⊢
  have HOF := Lib.hid hof; have HRF := Lib.hid hrf; have HSP := Lib.hid hsp; have HRS := Lib.hid hrs
  clear hx hof hrf hsp hrs hst p1 p2 p3 p4 hS
  generalize stE f = E at *
  generalize spV f = S at *
  have t0 : (E == E) = true := beq_self_eq_true _
  by_cases h60 : (60 : Int) < (f.xs.length : Int)
  · go_enter Try.func3, Try.ntmps3
    go_wp2_with fail
    refine (live17 _).mono ?_
    rintro e w1 ⟨rfl, hb⟩
    have K1 := Lib.hid (K0.out.call hb)
    clear hb
    go_wp2
    go_ret
    exact ⟨rfl, K1.out.below⟩
  · go_enter Try.func3, Try.ntmps3
    go_wp2_with fail
    refine (HOF.out _ (K0.out.arg (.head _))).mono ?_
    rintro e w1 ⟨rfl, hb⟩
    have K1 := Lib.hid ((K0.out.call hb).alloc #[.int .i64 i, .float .f64 a, .float .f64 t, .float .f64 v, .float .f64 x] 28)
    obtain ⟨a0, a1, a2, a3⟩ := ((K0.out.call hb).box (.head _)).c4
    have hz := ((K0.out.call hb).box (.head _)).lt
    clear hb
    go_wp2_with fail
    clear a0 a1 a2 a3 hz
    refine (HRF.out _ (K1.out.arg (.head _))).mono ?_
    rintro e w2 ⟨rfl, hb⟩
    have k1 := K1.out.call hb
    have K2 := Lib.hid (k1.alloc #[.int .i64 i, .float .f64 a, .float .f64 t, .float .f64 v, .float .f64 x] 28)
    obtain ⟨a0, a1, a2, a3⟩ := (k1.box (.tail _ (.head _))).c4
    have hz := (k1.box (.tail _ (.head _))).lt
    clear hb k1
    go_wp2_with fail
    clear a0 a1 a2 a3 hz
    refine (HSP.out _ (K2.out.arg (.head _))).mono ?_
    rintro e w3 ⟨rfl, hb⟩
    have k3 := K2.out.call hb
    have K3 := Lib.hid k3
    obtain ⟨a0, a1, a2, a3⟩ := (k3.box (.tail _ (.tail _ (.head _)))).c4
    clear hb k3
    go_wp2_with fail
    clear a0 a1 a2 a3
    refine (HRS.out _ (K3.out.arg (.head _))).mono ?_
    rintro e w4 ⟨rfl, hb⟩
    have k4 := K3.out.call hb
    have K4 := Lib.hid k4.below
    obtain ⟨a0, a1, a2, a3, a4⟩ := (k4.box (.head _)).c5
    obtain ⟨b0, b1, b2, b3, b4⟩ := (k4.box (.tail _ (.head _))).c5
    clear hb k4
    go_wp2_with fail
    clear a0 a1 a2 a3 a4 b0 b1 b2 b3 b4
    refine (HSM.out _).mono ?_
    rintro e w5 ⟨rfl, hb⟩
    have K5 := Lib.hid (Below.chain K4.out hb)
    clear hb
    go_wp2_with fail
    refine (HS1.out _).mono ?_
    rintro e w' ⟨rfl, rfl⟩
    go_wp2_with fail
    refine (live17 _).mono ?_
    rintro e w6 ⟨rfl, hb⟩
    have K6 := Lib.hid (Below.chain K5.out hb)
    clear hb
    go_wp2
    go_ret
    exact ⟨rfl, K6.out⟩

set_option maxRecDepth 100000 in
set_option maxHeartbeats 4000000 in
theorem statsMiss (f : Fct) (A : Option Addr) (c : Nat) (xs : List Nat) (B : Option Addr) (cx : Nat) (w : World) (hx : SlArg w A f.xs c) (hy : SlArg w B xs cx) :
    Calls Try.prog 4 #[facV f.C A f.xs.length c f.R f.T, .slice B xs.length cx] w fun e w' => e = .returned (.bool true) ∧ Below w.heap.size w w' := by
  have hms := fun W h h2 => smiss_any f A c xs B cx W h h2
  have hrm := fun W h h2 => rmiss_any f A c xs B cx W h h2
  have HS1 := Lib.hid (fun W => rsame_any (msV f xs) (msV f xs) (msV_lt _ _) (msV_lt _ _) W)
  rw [sameS_self] at HS1
  have K0 := Lib.hid ((((Keep.start w).more hy).more hx).alloc #[.int .i64 f.C, .slice A f.xs.length c, .int .i64 f.R, .int .i64 f.T] 24)
  unfold facV at hms hrm ⊢
  have HMS := Lib.hid hms; have HRM := Lib.hid hrm
  have HY := Lib.hid hy.reads
  clear hx hy hms hrm
  generalize msE f xs = E at *
  generalize msV f xs = S at *
  have t0 : (E == E) = true := beq_self_eq_true _
  by_cases h60 : (60 : Int) < (f.xs.length : Int)
  · go_enter Try.func4, Try.ntmps4
    go_wp2_with fail
    refine (live17 _).mono ?_
    rintro e w1 ⟨rfl, hb⟩
    have K1 := Lib.hid (K0.out.call hb)
    clear hb
    go_wp2
    go_ret
    exact ⟨rfl, K1.out.below⟩
  · by_cases h20 : (20 : Int) < (xs.length : Int)
    · go_enter Try.func4, Try.ntmps4
      go_wp2_with fail
      refine (live17 _).mono ?_
      rintro e w1 ⟨rfl, hb⟩
      have K1 := Lib.hid (K0.out.call hb)
      clear hb
      go_wp2
      go_ret
      exact ⟨rfl, K1.out.below⟩
    · go_enter Try.func4, Try.ntmps4
      go_wp2_with fail
      refine (HMS.out _ (K0.out.arg (.head _)) (K0.out.arg (.tail _ (.head _)))).mono ?_
      rintro e w1 ⟨rfl, hb⟩
      have k1 := K0.out.call hb
      have K1 := Lib.hid k1
      obtain ⟨a0, a1, a2, a3⟩ := (k1.box (.head _)).c4
      clear hb k1
      go_wp2_with fail
      clear a0 a1 a2 a3
      refine (HRM.out _ (K1.out.arg (.head _)) (K1.out.arg (.tail _ (.head _)))).mono ?_
      rintro e w2 ⟨rfl, hb⟩
      have K2 := Lib.hid (K1.out.call hb).below
      clear hb
      go_wp2_with fail
      refine (HS1.out _).mono ?_
      rintro e w' ⟨rfl, rfl⟩
      go_wp2_with fail
      refine (live17 _).mono ?_
      rintro e w6 ⟨rfl, hb⟩
      have K6 := Lib.hid (Below.chain K2.out hb)
      clear hb
      go_wp2
      go_ret
      exact ⟨rfl, K6.out⟩

end Go.Proofs.Ytkhnoffhbfcgfaa
