/- The walk of StatsBest. -/
import Derived.Test.YtkhnoffhbfcgfaaVk
import Derived.Test.YtkhnoffhbfcgfaaVm
set_option linter.unusedVariables false
namespace Go.Proofs.Ytkhnoffhbfcgfaa
open Go.RowKit Go.Shelf Lev

attribute [local go_sem] run_store_float order_lt order_gt order_eq order_ne flt_or_feq flt_or_feq'

set_option maxRecDepth 100000 in
set_option maxHeartbeats 4000000 in
theorem statsBest_long (f : Fct) (A : Option Addr) (c : Nat) (xs : List Nat) (B : Option Addr) (cx : Nat) (w : World) (hx : SlArg w A f.xs c) (hy : SlArg w B xs cx) (h : (60 : Int) < (f.xs.length : Int) ∨ (¬ (60 : Int) < (f.xs.length : Int) ∧ (20 : Int) < (xs.length : Int))) :
    Calls Try.prog 6 #[facV f.C A f.xs.length c f.R f.T, .slice B xs.length cx] w fun e w' => e = .returned (.bool true) ∧ Below w.heap.size w w' := by
  have K0 := Lib.hid ((((Keep.start w).more hy).more hx).alloc #[.int .i64 f.C, .slice A f.xs.length c, .int .i64 f.R, .int .i64 f.T] 24)
  unfold facV
  clear hx hy
  rcases h with h60 | ⟨h60, h20⟩
  all_goals
    go_enter Try.func6, Try.ntmps6
    go_wp2_with fail
    refine (live17 _).mono ?_
    rintro e w1 ⟨rfl, hb⟩
    have K1 := Lib.hid (K0.out.call hb)
    clear hb
    go_wp2
    go_ret
    exact ⟨rfl, K1.out.below⟩

set_option maxRecDepth 100000 in
set_option maxHeartbeats 4000000 in
theorem statsBest_bad (f : Fct) (A : Option Addr) (c : Nat) (xs : List Nat) (B : Option Addr) (cx : Nat) (w : World) (hx : SlArg w A f.xs c) (hy : SlArg w B xs cx) (h60 : ¬ (60 : Int) < (f.xs.length : Int)) (h20 : ¬ (20 : Int) < (xs.length : Int))
    (hE : (stE f != 0) = true ∨ ((stE f != 0) = false ∧ (msE f xs != 0) = true)) :
    Calls Try.prog 6 #[facV f.C A f.xs.length c f.R f.T, .slice B xs.length cx] w fun e w' => e = .returned (.bool true) ∧ Below w.heap.size w w' := by
  have hof := fun W h => sof_any f A c W h
  have hms := fun W h h2 => smiss_any f A c xs B cx W h h2
  obtain ⟨i, a, t, v, x, hst, _, _, _⟩ := st_open f
  rw [hst] at hof
  have K0 := Lib.hid ((((Keep.start w).more hy).more hx).alloc #[.int .i64 f.C, .slice A f.xs.length c, .int .i64 f.R, .int .i64 f.T] 24)
  unfold facV at hof hms ⊢
  have HOF := Lib.hid hof; have HMS := Lib.hid hms
  clear hx hy hof hms hst
  generalize stE f = E at *
  generalize msE f xs = E2 at *
  generalize msV f xs = S at *
  rcases hE with t1 | ⟨t1, t2⟩
  all_goals
    go_enter Try.func6, Try.ntmps6
    go_wp2_with fail
    refine (HOF.out _ (K0.out.arg (.head _))).mono ?_
    rintro e w1 ⟨rfl, hb⟩
    have K1 := Lib.hid ((K0.out.call hb).alloc #[.int .i64 i, .float .f64 a, .float .f64 t, .float .f64 v, .float .f64 x] 28)
    obtain ⟨a0, a1, a2, a3⟩ := ((K0.out.call hb).box (.head _)).c4
    have hz := ((K0.out.call hb).box (.head _)).lt
    clear hb
    go_wp2_with fail
    clear a0 a1 a2 a3 hz
    refine (HMS.out _ (K1.out.arg (.head _)) (K1.out.arg (.tail _ (.head _)))).mono ?_
    rintro e w2 ⟨rfl, hb⟩
    have K2 := Lib.hid (K1.out.call hb)
    clear hb
    go_wp2_with fail
    refine (live17 _).mono ?_
    rintro e w4 ⟨rfl, hb⟩
    have K4 := Lib.hid (K2.out.call hb).below
    clear hb
    go_wp2
    go_ret
    exact ⟨rfl, K4.out⟩

set_option maxRecDepth 100000 in
set_option maxHeartbeats 4000000 in
theorem statsBest_ok (f : Fct) (A : Option Addr) (c : Nat) (xs : List Nat) (B : Option Addr) (cx : Nat) (w : World) (hx : SlArg w A f.xs c) (hy : SlArg w B xs cx) (h60 : ¬ (60 : Int) < (f.xs.length : Int)) (h20 : ¬ (20 : Int) < (xs.length : Int))
    (hok : f.ok = true) (hf : 1 ≤ f.R - f.C) (hE : msE f xs = 0) :
    Calls Try.prog 6 #[facV f.C A f.xs.length c f.R f.T, .slice B xs.length cx] w fun e w' => e = .returned (.bool true) ∧ Below w.heap.size w w' := by
  obtain ⟨k1, k2, kx, k4, k5, k6, k7, k8, ky⟩ := ok_len hok
  clear kx ky
  have hof := fun W h => sof_any f A c W h
  have hms := fun W h h2 => smiss_any f A c xs B cx W h h2
  have q1 := best_ge hok hE
  obtain ⟨n1, n2⟩ := ms_nought hok
  have hmz := fun W B2 h h2 => smiss_any f A c (noughts f) B2 f.C.toNat W h h2
  rw [n1, n2, show (noughts f).length = f.C.toNat from List.length_replicate] at hmz
  obtain ⟨_, _, _, b2, _⟩ := st_facts hok hf
  have HS1 := Lib.hid (fun W => rsame_any (stTot f) (stTot f) b2 b2 W)
  rw [sameS_self] at HS1
  rw [stV_ok (stE_ok hok hf), stE_ok hok hf] at hof
  rw [hE] at hms
  obtain ⟨n, hn⟩ : ∃ n : Nat, n = f.C.toNat := ⟨_, rfl⟩
  have hnC : (n : Int) = f.C := by omega
  have hmk := fun w => run_make_row' (P := Try.prog) 22 26 (.float .f64 0) 8 Try.underlying22 info_f64' rfl .i64 .i64 n (by omega) (by omega) w
  rw [hnC] at hmk
  have hsz : ∀ (W : World) (g : Nat) (t : TypeId), Bk W g t (madeCells #[.float .f64 0] n) → SlArg W (some ⟨g, 0, none⟩) (noughts f) n := fun W g t hb => by
    unfold noughts; rw [← hn]; exact SlArg.zeros hb (by omega)
  rw [← hn] at hmz
  have K0 := Lib.hid ((((Keep.start w).more hy).more hx).alloc #[.int .i64 f.C, .slice A f.xs.length c, .int .i64 f.R, .int .i64 f.T] 24)
  unfold facV at hof hms hmz ⊢
  have HOF := Lib.hid hof; have HMS := Lib.hid hms; have HMZ := Lib.hid hmz; have HSZ := Lib.hid hsz
  clear hx hy hof hms hmz hsz hok hE n1 n2 b2 hn hnC
  generalize stRest f = r at *
  generalize stTot f = t at *
  generalize stVar f = v at *
  generalize stFit f = x at *
  generalize msV f xs = S at *
  go_enter Try.func6, Try.ntmps6
  go_wp2_with fail
  refine (HOF.out _ (K0.out.arg (.head _))).mono ?_
  rintro e w1 ⟨rfl, hb⟩
  have K1 := Lib.hid ((K0.out.call hb).alloc #[.int .i64 (f.R - f.C), .float .f64 r, .float .f64 t, .float .f64 v, .float .f64 x] 28)
  obtain ⟨a0, a1, a2, a3⟩ := ((K0.out.call hb).box (.head _)).c4
  have hz := ((K0.out.call hb).box (.head _)).lt
  clear hb
  go_wp2_with fail
  clear a0 a1 a2 a3 hz
  refine (HMS.out _ (K1.out.arg (.head _)) (K1.out.arg (.tail _ (.head _)))).mono ?_
  rintro e w2 ⟨rfl, hb⟩
  have K2 := Lib.hid (K1.out.call hb)
  obtain ⟨a0, a1, a2, a3⟩ := ((K1.out.call hb).box (.tail _ (.head _))).c4
  have hz := ((K1.out.call hb).box (.tail _ (.head _))).lt
  clear hb
  go_wp2_with fail
  have HXW := Lib.hid (fun Y (h : Below w2.heap.size w2 Y) => (K2.out.call h).arg (.head _))
  have HBK := Lib.hid (Bk.new w2 26 (madeCells #[.float .f64 0] n))
  have HXB := Lib.hid (fun Y (h : Below w2.heap.size w2 Y) => ((K2.out.call h).box (.head _)).c5)
  go_region_with (go_at_call 16; (refine (HMZ.out _ _ (HXW.out _ ?_) (HSZ.out _ _ 26 ?_)).mono ?_); (exact (by repeat (first | assumption | exact Below.refl _ _ | refine Below.allocs ?_ _ | refine Below.drews ?_ | refine Below.chain ?_ (by assumption)))); (exact HBK.out); rintro e w3 ⟨rfl, hb3⟩; have hb4 : Below w2.heap.size w2 w3 := (Below.chain (by repeat (first | assumption | exact Below.refl _ _ | refine Below.allocs ?_ _ | refine Below.drews ?_ | refine Below.chain ?_ (by assumption))) hb3))
  all_goals
    have HB4 := Lib.hid hb4
    obtain ⟨c0, c1, c2, c3, c4⟩ := HXB.out _ hb4
    clear hb3 hb4
    clear a0 a1 a2 a3 hz
    go_wp2_with fail
    refine (HS1.out _).mono ?_
    rintro e w' ⟨rfl, rfl⟩
    go_wp2_with fail
    refine (live17 _).mono ?_
    rintro e w4 ⟨rfl, hb⟩
    have K4 := Lib.hid ((K2.out.call HB4.out).call hb).below
    clear hb
    go_wp2
    go_ret
    exact ⟨rfl, K4.out⟩

theorem statsBest (f : Fct) (A : Option Addr) (c : Nat) (xs : List Nat) (B : Option Addr) (cx : Nat) (w : World) (hx : SlArg w A f.xs c) (hy : SlArg w B xs cx) :
    Calls Try.prog 6 #[facV f.C A f.xs.length c f.R f.T, .slice B xs.length cx] w fun e w' => e = .returned (.bool true) ∧ Below w.heap.size w w' := by
  by_cases h60 : (60 : Int) < (f.xs.length : Int)
  · exact statsBest_long f A c xs B cx w hx hy (.inl h60)
  · by_cases h20 : (20 : Int) < (xs.length : Int)
    · exact statsBest_long f A c xs B cx w hx hy (.inr ⟨h60, h20⟩)
    · by_cases hm : msE f xs = 0
      · cases hok : f.ok
        · exact statsBest_bad f A c xs B cx w hx hy h60 h20 (.inl (by rw [stE_no hok]; decide))
        · by_cases h : f.R - f.C < 1
          · exact statsBest_bad f A c xs B cx w hx hy h60 h20 (.inl (by rw [stE_few hok h]; decide))
          · exact statsBest_ok f A c xs B cx w hx hy h60 h20 hok (by omega) hm
      · by_cases he : stE f = 0
        · exact statsBest_bad f A c xs B cx w hx hy h60 h20 (.inr ⟨by rw [he]; decide, by rw [bne_iff_ne]; exact hm⟩)
        · exact statsBest_bad f A c xs B cx w hx hy h60 h20 (.inl (by rw [bne_iff_ne]; exact he))

end Go.Proofs.Ytkhnoffhbfcgfaa
