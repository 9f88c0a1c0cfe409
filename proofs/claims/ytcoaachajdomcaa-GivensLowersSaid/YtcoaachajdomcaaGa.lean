/- Contracts of package kern and of the document's answers for layer 5: All, fit, the counter. -/
import Derived.Test.YtcoaachajdomcaaMd
import Derived.Test.YtcoaachajdomcaaBi
import Derived.Test.YtcoaachajdomcaaCe
import Derived.Test.YtcoaachajdomcaaT
namespace Go.Proofs.Ytcoaachajdomcaa
open Go.RowKit Go.Shelf Lev

attribute [local go_sem] order_lt order_gt order_eq order_ne flt_or_feq flt_or_feq' run_store_float

theorem run_sqrt {b r : Nat} (h : D.sqrt b = some r) (w : World) : (callFunc 59 #[.float .f64 b]).run Try.prog w = .ok (.value (.float .f64 r)) w := by
  rw [run_callFunc_extern Try.func59 (by kernel_rfl) (by kernel_rfl) (by kernel_rfl) (e := Extern.MathSqrt.sqrt) (by kernel_rfl)]
  have h' : FloatKind.f64.format.sqrt b = some r := h
  have e : Extern.MathSqrt.sqrt #[.float .f64 b] = (match FloatKind.f64.format.sqrt b with
    | some r => pure (.float .f64 r)
    | none => do pure (.float .f64 (← choose (.nanBits .f64 b b)))) := rfl
  rw [h'] at e
  rw [e]
  rfl

set_option maxHeartbeats 400000 in
theorem sqrt_any (b r : Nat) (h : D.sqrt b = some r) (w : World) :
    Calls Try.prog 40 #[.float .f64 b] w fun e w' => e = .returned (.float .f64 r) ∧ w = w' := by
  have hs := fun w => run_sqrt h w
  clear h
  go_enter Try.func40, Try.ntmps40
  go_wp2
  go_ret
  exact ⟨rfl, rfl⟩

theorem allIn_no {xs : List Nat} {k : Nat} (hk : k < xs.length) (h : inS (ge xs k) = false) : allIn xs = false := by
  unfold allIn
  rw [List.all_eq_false]
  refine ⟨xs[k], List.getElem_mem hk, ?_⟩
  unfold ge at h
  rw [List.getElem?_eq_getElem hk] at h
  simpa using h
theorem allIn_yes {xs : List Nat} (h : ∀ k, k < xs.length → inS (ge xs k) = true) : allIn xs = true := by
  unfold allIn
  rw [List.all_eq_true]
  intro x hx
  rw [List.mem_iff_getElem] at hx
  obtain ⟨k, hk, rfl⟩ := hx
  have := h k hk
  unfold ge at this
  rw [List.getElem?_eq_getElem hk] at this
  exact this

set_option maxHeartbeats 400000 in
theorem kall_any (A : Option Addr) (xs : List Nat) (c : Nat) (w : World) (hx : SlArg w A xs c) :
    Calls Try.prog 19 #[.slice A xs.length c] w fun e w' => e = .returned (.bool (allIn xs)) ∧ w = w' := by
  have hl63 : xs.length ≤ 9223372036854775807 := Nat.le_trans hx.cap hx.room
  have HX := Lib.hid hx
  clear hx
  go_enter Try.func19, Try.ntmps19
  go_wp2
  go_loop [4, 7] (fun _ i => ∃ k : Nat, k ≤ xs.length ∧ i = .int .i64 (k : Int) ∧ ∀ j, j < k → inS (ge xs j) = true) (fun _ i => xs.length - (intOf i).toNat)
  case atStart => exact ⟨0, Nat.zero_le _, rfl, fun j hj => absurd hj (Nat.not_lt_zero j)⟩
  case round =>
    obtain ⟨k, hk, rfl, hall⟩ := hrel
    have HA := Lib.hid hall; clear hall
    by_cases hlt : (k : Int) < (xs.length : Int)
    · obtain ⟨b, off, rfl, _, hc⟩ := HX.out.reads.2 (by omega)
      have hcell : w.cell? ⟨b, off + k, none⟩ = some (.float .f64 (ge xs k)) := hc k (by omega)
      have hb : ge xs k < 18446744073709551616 := HX.out.reads.lt k
      have hno := allIn_no (xs := xs) (k := k) (by omega)
      have HNO := Lib.hid hno
      have hv : ∃ v, v = ge xs k := ⟨_, rfl⟩
      obtain ⟨v, hv⟩ := hv
      rw [← hv] at hcell hb HNO
      have HV := Lib.hid hv
      clear hc hno hv
      cases hs : inS v
      · have HF := Lib.hid (HNO.out hs)
        go_wp2_with (go_at_call 36; refine (in_any _ hb _).mono ?_; rintro e w' ⟨rfl, rfl⟩)
        go_ret
        exact ⟨ret_t HF.out.symm, rfl⟩
      · have HS := Lib.hid hs
        go_wp2_with (go_at_call 36; refine (in_any _ hb _).mono ?_; rintro e w' ⟨rfl, rfl⟩)
        go_round
        case rel =>
          refine ⟨k + 1, by omega, by go_num, fun j hj => ?_⟩
          rcases (by omega : j < k ∨ j = k) with h | h
          · exact HA.out j h
          · subst h; rw [← HV.out]; exact HS.out
        case measure => simp [intOf]; omega
    · have HY := Lib.hid (allIn_yes (xs := xs) (fun j hj => HA.out j (by omega)))
      go_wp2
      go_ret
      exact ⟨ret_t HY.out.symm, rfl⟩

set_option maxHeartbeats 400000 in
theorem rkall_any (A : Option Addr) (xs : List Nat) (c : Nat) (w : World) (hx : SlArg w A xs c) :
    Calls Try.prog 20 #[.slice A xs.length c] w fun e w' => e = .returned (.bool (allIn xs)) ∧ w = w' := by
  have hl63 : xs.length ≤ 9223372036854775807 := Nat.le_trans hx.cap hx.room
  have HX := Lib.hid hx
  clear hx
  go_enter Try.func20, Try.ntmps20
  go_wp2
  go_loop [3] (fun i => ∃ k : Nat, k ≤ xs.length ∧ i = .int .i64 (k : Int) ∧ ∀ j, j < k → inS (ge xs j) = true) (fun i => xs.length - (intOf i).toNat)
  case atStart => exact ⟨0, Nat.zero_le _, rfl, fun j hj => absurd hj (Nat.not_lt_zero j)⟩
  case round =>
    obtain ⟨k, hk, rfl, hall⟩ := hrel
    have HA := Lib.hid hall; clear hall
    by_cases hlt : (k : Int) < (xs.length : Int)
    · obtain ⟨b, off, rfl, _, hc⟩ := HX.out.reads.2 (by omega)
      have hcell : w.cell? ⟨b, off + k, none⟩ = some (.float .f64 (ge xs k)) := hc k (by omega)
      have hb : ge xs k < 18446744073709551616 := HX.out.reads.lt k
      have hno := allIn_no (xs := xs) (k := k) (by omega)
      have HNO := Lib.hid hno
      have hv : ∃ v, v = ge xs k := ⟨_, rfl⟩
      obtain ⟨v, hv⟩ := hv
      rw [← hv] at hcell hb HNO
      have HV := Lib.hid hv
      clear hc hno hv
      cases hs : inS v
      · have HF := Lib.hid (HNO.out hs)
        go_wp2_with (go_at_call 37; refine (rin_any _ hb _).mono ?_; rintro e w' ⟨rfl, rfl⟩)
        go_ret
        exact ⟨ret_t HF.out.symm, rfl⟩
      · have HS := Lib.hid hs
        go_wp2_with (go_at_call 37; refine (rin_any _ hb _).mono ?_; rintro e w' ⟨rfl, rfl⟩)
        go_round
        case rel =>
          refine ⟨k + 1, by omega, by go_num, fun j hj => ?_⟩
          rcases (by omega : j < k ∨ j = k) with h | h
          · exact HA.out j h
          · subst h; rw [← HV.out]; exact HS.out
        case measure => simp [intOf]; omega
    · have HY := Lib.hid (allIn_yes (xs := xs) (fun j hj => HA.out j (by omega)))
      go_wp2
      go_ret
      exact ⟨ret_t HY.out.symm, rfl⟩

set_option maxHeartbeats 400000 in
theorem fitk_any (A : Option Addr) (xs : List Nat) (c : Nat) (B : Option Addr) (ys : List Nat) (d : Nat) (w : World) (hx : SlArg w A xs c) (hy : SlArg w B ys d) :
    Calls Try.prog 34 #[.slice A xs.length c, .slice B ys.length d] w fun e w' => e = .returned (.bool (fitS xs ys)) ∧ w = w' := by
  have hl63 : xs.length ≤ 9223372036854775807 := Nat.le_trans hx.cap hx.room
  have hl64 : ys.length ≤ 9223372036854775807 := Nat.le_trans hy.cap hy.room
  have H1 := Lib.hid (kall_any A xs c w hx)
  have H2 := Lib.hid (kall_any B ys d w hy)
  unfold fitS
  clear hx hy
  by_cases h : xs.length = ys.length
  · have h1 : ((xs.length : Int) == (ys.length : Int)) = true := by rw [beq_iff_eq]; omega
    rw [decide_eq_true h, Bool.true_and]
    clear h
    cases ha : allIn xs
    · rw [ha] at H1
      go_enter Try.func34, Try.ntmps34
      go_wp2_with fail
      refine H1.out.mono ?_
      rintro e w' ⟨rfl, rfl⟩
      go_wp2
      go_ret
      exact ⟨rfl, rfl⟩
    · rw [ha] at H1
      generalize allIn ys = q at *
      go_enter Try.func34, Try.ntmps34
      go_wp2_with fail
      refine H1.out.mono ?_
      rintro e w' ⟨rfl, rfl⟩
      go_wp2_with fail
      refine H2.out.mono ?_
      rintro e w' ⟨rfl, rfl⟩
      go_wp2
      go_ret
      exact ⟨rfl, rfl⟩
  · have h1 : ((xs.length : Int) == (ys.length : Int)) = false := by rw [beq_eq_false_iff_ne]; omega
    rw [decide_eq_false h, Bool.false_and, Bool.false_and]
    clear h
    go_enter Try.func34, Try.ntmps34
    go_wp2
    go_ret
    exact ⟨rfl, rfl⟩

set_option maxHeartbeats 400000 in
/-- The counter counts on. -/
theorem count_any (s x r B : Nat) (t : TypeId) (w : World) (hb : Bk w B t #[.float .f64 s]) (hr : D.add s x = some r) :
    Calls Try.prog 54 #[.float .f64 x, .pointer (some ⟨B, 0, none⟩)] w fun e w' => e = .returned (.float .f64 r) ∧ w' = w.setCell ⟨B, 0, none⟩ (.float .f64 r) := by
  have hm : floatBits .add .f64 s x = some r := hr
  have hrun := fun (w : World) => run_float_arith (P := Try.prog) w .add 22 .f64 _ _ _ hm
  obtain ⟨c0, f0⟩ := hb.c1
  have c1 := (hb.set1 (.float .f64 r)).c1.1
  clear hm hr hb
  go_enter Try.func54, Try.ntmps54
  go_wp2
  go_ret
  exact ⟨rfl, rfl⟩

end Go.Proofs.Ytcoaachajdomcaa
