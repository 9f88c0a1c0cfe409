/- Plain texts, laid as one. -/
import Derived.Test.YtfnhcgpdlhndhaaC
import Derived.Test.YtfnhcgpdlhndhaaB
import Derived.Test.YtfnhcgpdlhndhaaT
/- Contracts of package kern and of the document's answers for layer 5: All, fit, the counter. -/
namespace Go.Proofs.Ytfnhcgpdlhndhaa
open Go.RowKit Go.Shelf Lev

attribute [local go_sem] order_lt order_gt order_eq order_ne flt_or_feq flt_or_feq' run_store_float

theorem run_sqrt {b r : Nat} (h : D.sqrt b = some r) (w : World) : (callFunc 74 #[.float .f64 b]).run Try.prog w = .ok (.value (.float .f64 r)) w := by
  rw [run_callFunc_extern Try.func74 (by kernel_rfl) (by kernel_rfl) (by kernel_rfl) (e := Extern.MathSqrt.sqrt) (by kernel_rfl)]
  have h' : FloatKind.f64.format.sqrt b = some r := h
  have e : Extern.MathSqrt.sqrt #[.float .f64 b] = (match FloatKind.f64.format.sqrt b with
    | some r => pure (.float .f64 r)
    | none => do pure (.float .f64 (← choose (.nanBits .f64 b b)))) := rfl
  rw [h'] at e
  rw [e]
  rfl

set_option maxHeartbeats 400000 in
theorem sqrt_any (b r : Nat) (h : D.sqrt b = some r) (w : World) :
    Calls Try.prog 51 #[.float .f64 b] w fun e w' => e = .returned (.float .f64 r) ∧ w = w' := by
  have hs := fun w => run_sqrt h w
  clear h
  go_enter Try.func51, Try.ntmps51
  go_wp2
  go_ret
  exact ⟨rfl, rfl⟩

theorem allIn_no {xs : List Nat} {k : Nat} (hk : k < xs.length) (h : inS (ge xs k) = false) : allIn xs = false := by
  unfold allIn
  rw [List.all_eq_false]
  refine ⟨xs[k], List.getElem_mem hk, ?_⟩
  unfold ge at h
  rw [List.getElem?_eq_getElem hk] at h
  simpa using h
theorem allIn_yes {xs : List Nat} (h : ∀ k, k < xs.length → inS (ge xs k) = true) : allIn xs = true := by
  unfold allIn
  rw [List.all_eq_true]
  intro x hx
  rw [List.mem_iff_getElem] at hx
  obtain ⟨k, hk, rfl⟩ := hx
  have := h k hk
  unfold ge at this
  rw [List.getElem?_eq_getElem hk] at this
  exact this

set_option maxHeartbeats 400000 in
theorem kall_any (A : Option Addr) (xs : List Nat) (c : Nat) (w : World) (hx : SlArg w A xs c) :
    Calls Try.prog 41 #[.slice A xs.length c] w fun e w' => e = .returned (.bool (allIn xs)) ∧ w = w' := by
  have hl63 : xs.length ≤ 9223372036854775807 := Nat.le_trans hx.cap hx.room
  have HX := Lib.hid hx
  clear hx
  go_enter Try.func41, Try.ntmps41
  go_wp2
  go_loop [4, 7] (fun _ i => ∃ k : Nat, k ≤ xs.length ∧ i = .int .i64 (k : Int) ∧ ∀ j, j < k → inS (ge xs j) = true) (fun _ i => xs.length - (intOf i).toNat)
  case atStart => exact ⟨0, Nat.zero_le _, rfl, fun j hj => absurd hj (Nat.not_lt_zero j)⟩
  case round =>
    obtain ⟨k, hk, rfl, hall⟩ := hrel
    have HA := Lib.hid hall; clear hall
    by_cases hlt : (k : Int) < (xs.length : Int)
    · obtain ⟨b, off, rfl, _, hc⟩ := HX.out.reads.2 (by omega)
      have hcell : w.cell? ⟨b, off + k, none⟩ = some (.float .f64 (ge xs k)) := hc k (by omega)
      have hb : ge xs k < 18446744073709551616 := HX.out.reads.lt k
      have hno := allIn_no (xs := xs) (k := k) (by omega)
      have HNO := Lib.hid hno
      have hv : ∃ v, v = ge xs k := ⟨_, rfl⟩
      obtain ⟨v, hv⟩ := hv
      rw [← hv] at hcell hb HNO
      have HV := Lib.hid hv
      clear hc hno hv
      cases hs : inS v
      · have HF := Lib.hid (HNO.out hs)
        go_wp2_with (go_at_call 46; refine (in_any _ hb _).mono ?_; rintro e w' ⟨rfl, rfl⟩)
        go_ret
        exact ⟨ret_t HF.out.symm, rfl⟩
      · have HS := Lib.hid hs
        go_wp2_with (go_at_call 46; refine (in_any _ hb _).mono ?_; rintro e w' ⟨rfl, rfl⟩)
        go_round
        case rel =>
          refine ⟨k + 1, by omega, by go_num, fun j hj => ?_⟩
          rcases (by omega : j < k ∨ j = k) with h | h
          · exact HA.out j h
          · subst h; rw [← HV.out]; exact HS.out
        case measure => simp [intOf]; omega
    · have HY := Lib.hid (allIn_yes (xs := xs) (fun j hj => HA.out j (by omega)))
      go_wp2
      go_ret
      exact ⟨ret_t HY.out.symm, rfl⟩

set_option maxHeartbeats 400000 in
theorem rkall_any (A : Option Addr) (xs : List Nat) (c : Nat) (w : World) (hx : SlArg w A xs c) :
    Calls Try.prog 22 #[.slice A xs.length c] w fun e w' => e = .returned (.bool (allIn xs)) ∧ w = w' := by
  have hl63 : xs.length ≤ 9223372036854775807 := Nat.le_trans hx.cap hx.room
  have HX := Lib.hid hx
  clear hx
  go_enter Try.func22, Try.ntmps22
  go_wp2
  go_loop [3] (fun i => ∃ k : Nat, k ≤ xs.length ∧ i = .int .i64 (k : Int) ∧ ∀ j, j < k → inS (ge xs j) = true) (fun i => xs.length - (intOf i).toNat)
  case atStart => exact ⟨0, Nat.zero_le _, rfl, fun j hj => absurd hj (Nat.not_lt_zero j)⟩
  case round =>
    obtain ⟨k, hk, rfl, hall⟩ := hrel
    have HA := Lib.hid hall; clear hall
    by_cases hlt : (k : Int) < (xs.length : Int)
    · obtain ⟨b, off, rfl, _, hc⟩ := HX.out.reads.2 (by omega)
      have hcell : w.cell? ⟨b, off + k, none⟩ = some (.float .f64 (ge xs k)) := hc k (by omega)
      have hb : ge xs k < 18446744073709551616 := HX.out.reads.lt k
      have hno := allIn_no (xs := xs) (k := k) (by omega)
      have HNO := Lib.hid hno
      have hv : ∃ v, v = ge xs k := ⟨_, rfl⟩
      obtain ⟨v, hv⟩ := hv
      rw [← hv] at hcell hb HNO
      have HV := Lib.hid hv
      clear hc hno hv
      cases hs : inS v
      · have HF := Lib.hid (HNO.out hs)
        go_wp2_with (go_at_call 34; refine (rin_any _ hb _).mono ?_; rintro e w' ⟨rfl, rfl⟩)
        go_ret
        exact ⟨ret_t HF.out.symm, rfl⟩
      · have HS := Lib.hid hs
        go_wp2_with (go_at_call 34; refine (rin_any _ hb _).mono ?_; rintro e w' ⟨rfl, rfl⟩)
        go_round
        case rel =>
          refine ⟨k + 1, by omega, by go_num, fun j hj => ?_⟩
          rcases (by omega : j < k ∨ j = k) with h | h
          · exact HA.out j h
          · subst h; rw [← HV.out]; exact HS.out
        case measure => simp [intOf]; omega
    · have HY := Lib.hid (allIn_yes (xs := xs) (fun j hj => HA.out j (by omega)))
      go_wp2
      go_ret
      exact ⟨ret_t HY.out.symm, rfl⟩

set_option maxHeartbeats 400000 in
theorem fitk_any (A : Option Addr) (xs : List Nat) (c : Nat) (B : Option Addr) (ys : List Nat) (d : Nat) (w : World) (hx : SlArg w A xs c) (hy : SlArg w B ys d) :
    Calls Try.prog 42 #[.slice A xs.length c, .slice B ys.length d] w fun e w' => e = .returned (.bool (fitS xs ys)) ∧ w = w' := by
  have hl63 : xs.length ≤ 9223372036854775807 := Nat.le_trans hx.cap hx.room
  have hl64 : ys.length ≤ 9223372036854775807 := Nat.le_trans hy.cap hy.room
  have H1 := Lib.hid (kall_any A xs c w hx)
  have H2 := Lib.hid (kall_any B ys d w hy)
  unfold fitS
  clear hx hy
  by_cases h : xs.length = ys.length
  · have h1 : ((xs.length : Int) == (ys.length : Int)) = true := by rw [beq_iff_eq]; omega
    rw [decide_eq_true h, Bool.true_and]
    clear h
    cases ha : allIn xs
    · rw [ha] at H1
      go_enter Try.func42, Try.ntmps42
      go_wp2_with fail
      refine H1.out.mono ?_
      rintro e w' ⟨rfl, rfl⟩
      go_wp2
      go_ret
      exact ⟨rfl, rfl⟩
    · rw [ha] at H1
      generalize allIn ys = q at *
      go_enter Try.func42, Try.ntmps42
      go_wp2_with fail
      refine H1.out.mono ?_
      rintro e w' ⟨rfl, rfl⟩
      go_wp2_with fail
      refine H2.out.mono ?_
      rintro e w' ⟨rfl, rfl⟩
      go_wp2
      go_ret
      exact ⟨rfl, rfl⟩
  · have h1 : ((xs.length : Int) == (ys.length : Int)) = false := by rw [beq_eq_false_iff_ne]; omega
    rw [decide_eq_false h, Bool.false_and, Bool.false_and]
    clear h
    go_enter Try.func42, Try.ntmps42
    go_wp2
    go_ret
    exact ⟨rfl, rfl⟩

set_option maxHeartbeats 400000 in
/-- The counter counts on. -/
theorem count_any (s x r B : Nat) (t : TypeId) (w : World) (hb : Bk w B t #[.float .f64 s]) (hr : D.add s x = some r) :
    Calls Try.prog 67 #[.float .f64 x, .pointer (some ⟨B, 0, none⟩)] w fun e w' => e = .returned (.float .f64 r) ∧ w' = w.setCell ⟨B, 0, none⟩ (.float .f64 r) := by
  have hm : floatBits .add .f64 s x = some r := hr
  have hrun := fun (w : World) => run_float_arith (P := Try.prog) w .add 24 .f64 _ _ _ hm
  obtain ⟨c0, f0⟩ := hb.c1
  have c1 := (hb.set1 (.float .f64 r)).c1.1
  clear hm hr hb
  go_enter Try.func67, Try.ntmps67
  go_wp2
  go_ret
  exact ⟨rfl, rfl⟩

end Go.Proofs.Ytfnhcgpdlhndhaa

/- Contracts of package kern: the counter, Sum, Dot. -/
namespace Go.Proofs.Ytfnhcgpdlhndhaa
open Go.RowKit Go.Shelf Lev

attribute [local go_sem] order_lt order_gt order_eq order_ne flt_or_feq flt_or_feq' run_store_float

set_option maxHeartbeats 400000 in
/-- A new counter. -/
theorem counter_any (w : World) :
    Calls Try.prog 43 #[] w fun e w' => e = .returned (.func (.func 67) #[] #[.pointer (some ⟨w.heap.size, 0, none⟩)]) ∧ w' = w.alloc (.cells #[.float .f64 0] 24) := by
  go_enter Try.func43, Try.ntmps43
  go_wp2
  go_ret
  exact ⟨rfl, rfl⟩

set_option maxHeartbeats 1000000 in
theorem ksum_any (A : Option Addr) (xs : List Nat) (c : Nat) (w : World) (hx : SlArg w A xs c) (hl : xs.length ≤ 40) :
    Calls Try.prog 20 #[.slice A xs.length c] w fun e w' => e = .returned (.tuple #[.float .f64 (sumF xs), .bool (allIn xs)]) ∧ Below w.heap.size w w' := by
  have H1 := Lib.hid (kall_any A xs c w hx)
  cases ha : allIn xs
  · rw [ha] at H1
    have hr : sumF xs = 0 := by unfold sumF; rw [if_neg (by rw [ha]; decide)]
    rw [hr]
    clear ha hr hx
    go_enter Try.func20, Try.ntmps20
    go_wp2_with fail
    refine H1.out.mono ?_
    rintro e w' ⟨rfl, rfl⟩
    go_wp2
    go_ret2
    exact ⟨rfl, Below.refl _ _⟩
  · rw [ha] at H1
    have hr : sumF xs = sumT (absT xs) xs.length := by unfold sumF; rw [if_pos ha]
    rw [hr]
    have HT := Lib.hid (fun k (hk : k < xs.length) => sumT_add (t := absT xs) (E := 400) (by decide) (by decide) (k := k) (by omega) (fun i hi => absT_bd ha (by omega)))
    have HX := Lib.hid hx
    clear ha hr hx
    go_enter Try.func20, Try.ntmps20
    go_wp2_with (first | (go_at_call 41; refine H1.out.mono ?_; rintro e w' ⟨rfl, rfl⟩) | (go_at_call 43; refine (counter_any _).mono ?_; rintro e w' ⟨rfl, rfl⟩))
    go_loopw [4, 14] (fun s i wr => ∃ k : Nat, k ≤ xs.length ∧ i = .int .i64 (k : Int) ∧ s = .float .f64 (sumT (absT xs) k) ∧ Bk wr w.heap.size 24 #[.float .f64 (sumT (absT xs) k)] ∧ SlArg wr A xs c ∧ Below w.heap.size w wr) (fun _ i _ => xs.length - (intOf i).toNat)
    case atStart => exact ⟨0, Nat.zero_le _, rfl, rfl, Bk.new _ _ _, HX.out.below ((Below.refl _ _).alloc (Nat.le_refl _) _), (Below.refl _ _).alloc (Nat.le_refl _) _⟩
    case round =>
      obtain ⟨k, hk, rfl, rfl, d0, hxk, hbel⟩ := hrel
      by_cases hlt : (k : Int) < (xs.length : Int)
      · obtain ⟨b, off, rfl, _, hc⟩ := hxk.reads.2 (by omega)
        have hcell : wr.cell? ⟨b, off + k, none⟩ = some (.float .f64 (ge xs k)) := hc k (by omega)
        have hb : ge xs k < 18446744073709551616 := hxk.reads.lt k
        have hs := HT.out k (by omega)
        rw [show absT xs k = rg (ge xs k) from rfl] at hs
        obtain ⟨s1, h1⟩ : ∃ s1, s1 = sumT (absT xs) (k + 1) := ⟨_, rfl⟩
        obtain ⟨s0, h0⟩ : ∃ s0, s0 = sumT (absT xs) k := ⟨_, rfl⟩
        rw [← h1, ← h0] at hs
        rw [← h0] at d0 ⊢
        clear h0
        have hn := HX.out.old (Nat.le_refl w.heap.size)
        have HS := Lib.hid hs; have HN := Lib.hid hn; have HK := Lib.hid hxk; have H1' := Lib.hid h1; have HD := Lib.hid d0; have HB := Lib.hid hb; have HE := Lib.hid hbel
        generalize ge xs k = x at *
        clear hc hs hn hxk h1 d0 hb hbel
        go_wp2_with (first
          | (go_at_call 19; refine (abs_any _ HB.out _).mono ?_; rintro e w' ⟨rfl, rfl⟩)
          | (go_at_call 67; refine (count_any s0 (rg x) s1 w.heap.size _ wr HD.out HS.out).mono ?_; rintro e w' ⟨rfl, rfl⟩))
        go_roundw
        case rel => exact ⟨k + 1, by omega, by go_num, by rw [H1'.out], by rw [← H1'.out]; exact HD.out.set1 _, HK.out.setCell HN.out _, HE.out.setCell (Nat.le_refl _) _⟩
        case measure => simp [intOf]; omega
      · obtain rfl : k = xs.length := by omega
        have HE := Lib.hid hbel
        clear d0 hxk hbel
        go_wp2
        go_ret2
        exact ⟨rfl, HE.out⟩

set_option maxHeartbeats 1000000 in
theorem kdot_any (A : Option Addr) (xs : List Nat) (c : Nat) (B : Option Addr) (ys : List Nat) (d : Nat) (w : World) (hx : SlArg w A xs c) (hy : SlArg w B ys d) (hl : xs.length ≤ 40) :
    Calls Try.prog 12 #[.slice A xs.length c, .slice B ys.length d] w fun e w' => e = .returned (.tuple #[.float .f64 (dotF xs ys), .bool (fitS xs ys)]) ∧ Below w.heap.size w w' := by
  have H1 := Lib.hid (fitk_any A xs c B ys d w hx hy)
  cases ha : fitS xs ys
  · rw [ha] at H1
    have hr : dotF xs ys = 0 := by unfold dotF; rw [if_neg (by rw [ha]; decide)]
    rw [hr]
    clear ha hr hx hy
    go_enter Try.func12, Try.ntmps12
    go_wp2_with fail
    refine H1.out.mono ?_
    rintro e w' ⟨rfl, rfl⟩
    go_wp2
    go_ret2
    exact ⟨rfl, Below.refl _ _⟩
  · rw [ha] at H1
    have hr : dotF xs ys = sumT (dotT xs ys) xs.length := by unfold dotF; rw [if_pos ha]
    rw [hr]
    have HT := Lib.hid (fun k (hk : k < xs.length) => sumT_add (t := dotT xs ys) (E := 800) (by decide) (by decide) (k := k) (by omega) (fun i hi => dotT_bd ha (by omega)))
    obtain ⟨hlen, hax, hay⟩ := fitS_iff.mp ha
    have HM := Lib.hid (fun k (hk : k < xs.length) => (prod_in (allIn_get hax hk) (allIn_get hay (hlen ▸ hk))).1)
    have HX := Lib.hid hx
    have HY := Lib.hid hy
    have HL := Lib.hid hlen
    clear ha hr hx hy hax hay hlen
    go_enter Try.func12, Try.ntmps12
    go_wp2_with (first | (go_at_call 42; refine H1.out.mono ?_; rintro e w' ⟨rfl, rfl⟩) | (go_at_call 43; refine (counter_any _).mono ?_; rintro e w' ⟨rfl, rfl⟩))
    go_loopw [6, 18] (fun s i wr => ∃ k : Nat, k ≤ xs.length ∧ i = .int .i64 (k : Int) ∧ s = .float .f64 (sumT (dotT xs ys) k) ∧ Bk wr w.heap.size 24 #[.float .f64 (sumT (dotT xs ys) k)] ∧ SlArg wr A xs c ∧ SlArg wr B ys d ∧ Below w.heap.size w wr) (fun _ i _ => xs.length - (intOf i).toNat)
    case atStart => exact ⟨0, Nat.zero_le _, rfl, rfl, Bk.new _ _ _, HX.out.below ((Below.refl _ _).alloc (Nat.le_refl _) _), HY.out.below ((Below.refl _ _).alloc (Nat.le_refl _) _), (Below.refl _ _).alloc (Nat.le_refl _) _⟩
    case round =>
      obtain ⟨k, hk, rfl, rfl, d0, hxk, hyk, hbel⟩ := hrel
      by_cases hlt : (k : Int) < (xs.length : Int)
      · have hlt2 : (k : Int) < (ys.length : Int) := by have := HL.out; omega
        obtain ⟨b, off, rfl, _, hc⟩ := hxk.reads.2 (by omega)
        obtain ⟨b2, off2, rfl, _, hc2⟩ := hyk.reads.2 (by omega)
        have hcell : wr.cell? ⟨b, off + k, none⟩ = some (.float .f64 (ge xs k)) := hc k (by omega)
        have hcell2 : wr.cell? ⟨b2, off2 + k, none⟩ = some (.float .f64 (ge ys k)) := hc2 k (by omega)
        have hs := HT.out k (by omega)
        have hp := HM.out k (by omega)
        rw [show dotT xs ys k = fmul (ge xs k) (ge ys k) from rfl] at hs
        obtain ⟨s1, h1⟩ : ∃ s1, s1 = sumT (dotT xs ys) (k + 1) := ⟨_, rfl⟩
        obtain ⟨s0, h0⟩ : ∃ s0, s0 = sumT (dotT xs ys) k := ⟨_, rfl⟩
        rw [← h1, ← h0] at hs
        rw [← h0] at d0 ⊢
        clear h0
        have hn := HX.out.old (Nat.le_refl w.heap.size)
        have hn2 := HY.out.old (Nat.le_refl w.heap.size)
        have HS := Lib.hid hs; have HN := Lib.hid hn; have HN2 := Lib.hid hn2; have HK := Lib.hid hxk; have HK2 := Lib.hid hyk; have H1' := Lib.hid h1; have HD := Lib.hid d0; have HE := Lib.hid hbel
        have hm : floatBits .mul .f64 (ge xs k) (ge ys k) = some (fmul (ge xs k) (ge ys k)) := hp
        have hrun := fun (w : World) => run_float_arith (P := Try.prog) w .mul 24 .f64 _ _ _ hm
        generalize ge xs k = x at *
        generalize ge ys k = y at *
        generalize fmul x y = p at *
        clear hc hc2 hs hn hn2 hxk hyk h1 d0 hbel hp hm
        go_wp2_with (go_at_call 67; refine (count_any s0 p s1 w.heap.size _ wr HD.out HS.out).mono ?_; rintro e w' ⟨rfl, rfl⟩)
        go_roundw
        case rel => exact ⟨k + 1, by omega, by go_num, by rw [H1'.out], by rw [← H1'.out]; exact HD.out.set1 _, HK.out.setCell HN.out _, HK2.out.setCell HN2.out _, HE.out.setCell (Nat.le_refl _) _⟩
        case measure => simp [intOf]; omega
      · obtain rfl : k = xs.length := by omega
        have HE := Lib.hid hbel
        clear d0 hxk hyk hbel
        go_wp2
        go_ret2
        exact ⟨rfl, HE.out⟩

end Go.Proofs.Ytfnhcgpdlhndhaa

/- Contracts of package kern: Norm. -/
namespace Go.Proofs.Ytfnhcgpdlhndhaa
open Go.RowKit Go.Shelf Lev

attribute [local go_sem] order_lt order_gt order_eq order_ne flt_or_feq flt_or_feq' run_store_float

theorem rg_pos {x : Nat} (hx : x ≤ INF) : rg x = x := by have := INF_eq; unfold rg; omega
theorem ord_pos {x : Nat} (hx : x ≤ INF) : ord x = x := by have := ord_rg x; rw [rg_pos hx] at this; exact this
theorem max2_pos {x y : Nat} (hx : x ≤ INF) (hy : y ≤ INF) : Builtin.max2 (.float .f64 x) (.float .f64 y) = pure (.float .f64 (max x y)) := by
  have e : Builtin.max2 (.float .f64 x) (.float .f64 y) = (match FloatKind.f64.format.order x y with
    | none => do pure (.float .f64 (← choose (.nanMinMax .f64 true x y)))
    | some .lt => pure (.float .f64 y)
    | some .gt => pure (.float .f64 x)
    | some .eq => pure (.float .f64 (if (FloatKind.f64.decode x).neg then y else x))) := rfl
  have ho := order_cases x y
  rw [rg_pos hx, rg_pos hy, ord_pos hx, ord_pos hy] at ho
  have e0 : FloatKind.f64.format.order x y = D.order x y := rfl
  rw [e, e0]
  rcases ho with ⟨h, hn⟩ | ⟨hc, ⟨h, ho⟩ | ⟨h, ho⟩ | ⟨h, ho⟩⟩
  · exact absurd ⟨hx, hy⟩ hn
  · have hm : max x y = y := by omega
    rw [h, hm]
  · have : x = y := by omega
    subst this
    rw [h, Nat.max_self]
    show pure (Value.float FloatKind.f64 (if _ then x else x)) = _
    rw [ite_self]
  · have hm : max x y = x := by omega
    rw [h, hm]

theorem run_max_pos {P : Program} {x y : Nat} (hx : x ≤ INF) (hy : y ≤ INF) (w : World) (ts : Array TypeId) (t : TypeId) :
    (Builtin.max_ ts t #[.float .f64 x, .float .f64 y]).run P w = .ok (.float .f64 (max x y)) w := by
  have h := max2_pos hx hy
  simp [Builtin.max_, h]

set_option maxHeartbeats 1000000 in
theorem knorm_any (A : Option Addr) (xs : List Nat) (c : Nat) (w : World) (hx : SlArg w A xs c) (hl : xs.length ≤ 40) :
    Calls Try.prog 21 #[.slice A xs.length c] w fun e w' => e = .returned (.tuple #[.float .f64 (normF xs), .bool (allIn xs)]) ∧ Below w.heap.size w w' := by
  have H1 := Lib.hid (kall_any A xs c w hx)
  cases ha : allIn xs
  · rw [ha] at H1
    have hr : normF xs = 0 := by unfold normF; rw [if_neg (by rw [ha]; simp)]
    rw [hr]
    clear ha hr hx
    go_enter Try.func21, Try.ntmps21
    go_wp2_with fail
    refine H1.out.mono ?_
    rintro e w' ⟨rfl, rfl⟩
    go_wp2
    go_ret2
    exact ⟨rfl, Below.refl _ _⟩
  · rw [ha] at H1
    have HA := Lib.hid ha
    have HX := Lib.hid hx
    have HI := Lib.hid INF_eq
    have HL := Lib.hid hl
    clear ha hx
    go_enter Try.func21, Try.ntmps21
    go_wp2_with (go_at_call 41; refine H1.out.mono ?_; rintro e w' ⟨rfl, rfl⟩)
    go_loop [4, 19] (fun s i => ∃ k : Nat, k ≤ xs.length ∧ i = .int .i64 (k : Int) ∧ s = .float .f64 (mostT xs k)) (fun _ i => xs.length - (intOf i).toNat)
    case atStart => exact ⟨0, Nat.zero_le _, rfl, rfl⟩
    case round =>
      obtain ⟨k, hk, rfl, rfl⟩ := hrel
      by_cases hlt : (k : Int) < (xs.length : Int)
      · obtain ⟨b, off, rfl, _, hc⟩ := HX.out.reads.2 (by omega)
        have hcell : w.cell? ⟨b, off + k, none⟩ = some (.float .f64 (ge xs k)) := hc k (by omega)
        have hb : ge xs k < 18446744073709551616 := HX.out.reads.lt k
        have hm := mostT_in HA.out k hk
        have hm1 : mostT xs (k + 1) = max (mostT xs k) (rg (ge xs k)) := rfl
        have hin := (inS_bd (allIn_get HA.out (k := k) (by omega))).1
        have hmax := fun (W : World) (ts : Array TypeId) (t : TypeId) => run_max_pos (P := Try.prog) (x := mostT xs k) (y := rg (ge xs k)) (by have := HI.out; omega) (by unfold fin at hin; omega) W ts t
        rw [← hm1] at hmax
        obtain ⟨m1, h1⟩ : ∃ m1, m1 = mostT xs (k + 1) := ⟨_, rfl⟩
        rw [← h1] at hmax
        have HM := Lib.hid h1; have HB := Lib.hid hb
        clear hm hin hm1 hc h1 hb
        generalize mostT xs k = m0 at *
        generalize ge xs k = x at *
        go_wp2_with (go_at_call 19; refine (abs_any _ HB.out _).mono ?_; rintro e w' ⟨rfl, rfl⟩)
        go_round
        case rel => exact ⟨k + 1, by omega, by go_num, by rw [HM.out]⟩
        case measure => simp [intOf]; omega
      · obtain rfl : k = xs.length := by omega
        by_cases h0 : mostT xs xs.length = 0
        · have hr : normF xs = 0 := by unfold normF; rw [if_neg (by simp [h0])]
          have HR := Lib.hid hr
          have hz : feq (mostT xs xs.length) 0 = true := by rw [h0]; decide
          clear hr h0
          go_wp2
          go_ret2
          exact ⟨by rw [HR.out]; rfl, Below.refl _ _⟩
        · have hr : normF xs = ldS (sqrtF (sumT (sqT xs (normK xs)) xs.length)) (normK xs) := by unfold normF; rw [if_pos ⟨HA.out, h0⟩]
          have HR := Lib.hid hr
          have hm := mostT_in HA.out xs.length (Nat.le_refl _)
          have hmr : rg (mostT xs xs.length) = mostT xs xs.length := rg_small (by omega)
          have hz : feq (mostT xs xs.length) 0 = false := by rw [feq_zero, hmr]; exact decide_eq_false h0
          have hti : inS (mostT xs xs.length) = true := by unfold inS; rw [decide_eq_true_eq, hmr]; omega
          have htop : topB (mostT xs xs.length) = normK xs := by rw [topB_of hti, hmr, if_neg h0]; rfl
          have hb := hm
          have hmb : mostT xs xs.length < 18446744073709551616 := by omega
          have hkk := topS_lo400 (m := mostT xs xs.length) (by omega) (by omega)
          have HT := Lib.hid (top_any (mostT xs xs.length) hmb)
          rw [htop] at HT
          have hns := norm_sum HA.out h0 (by have := HL.out; omega)
          have hsq := sqrt_bd hns.1 hns.2.1 hns.2.2
          have HNT := Lib.hid (fun i (hi : i < xs.length) => norm_terms HA.out h0 hi)
          have HAD := Lib.hid (fun k (hk : k < xs.length) => sumT_add (t := sqT xs (normK xs)) (E := 2) (by decide) (by decide) (k := k) (by have := HL.out; omega) (fun i hi => ⟨(HNT.out i (by omega)).2.2.2.1, (HNT.out i (by omega)).2.2.2.2.1⟩))
          have hkr : -400 ≤ normK xs ∧ normK xs ≤ 400 := hkk
          have hsc : ∀ i, scT xs (normK xs) i = ldS (ge xs i) (-normK xs) := fun _ => rfl
          have hsq2 : ∀ i, sqT xs (normK xs) i = fmul (scT xs (normK xs) i) (scT xs (normK xs) i) := fun _ => rfl
          have HLD := Lib.hid (fun i (hi : i < xs.length) (W : World) => Ldexp_any (ge xs i) (-normK xs) (HX.out.reads.lt i) (HNT.out i hi).1 (by omega) W)
          have HSQ := Lib.hid (sqrt_any _ _ hsq.1)
          have HLF := Lib.hid (fun W => Ldexp_any (sqrtF (sumT (sqT xs (normK xs)) xs.length)) (normK xs) hsq.2.2.1 hsq.2.1 (by omega) W)
          clear hm hmr hti htop hb hmb hkk hns hsq hr hsc hsq2 h0
          obtain ⟨hk1, hk2⟩ := hkr
          generalize normK xs = K at *
          go_wp2_with (first
            | (go_at_call 49; refine (HT.out _).mono ?_; rintro e w' ⟨rfl, rfl⟩)
            | (go_at_call 43; refine (counter_any _).mono ?_; rintro e w' ⟨rfl, rfl⟩))
          go_loopw [8, 35] (fun s i wr => ∃ k : Nat, k ≤ xs.length ∧ i = .int .i64 (k : Int) ∧ s = .float .f64 (sumT (sqT xs K) k) ∧ Bk wr w.heap.size 24 #[.float .f64 (sumT (sqT xs K) k)] ∧ SlArg wr A xs c ∧ Below w.heap.size w wr) (fun _ i _ => xs.length - (intOf i).toNat)
          case atStart => exact ⟨0, Nat.zero_le _, rfl, rfl, Bk.new _ _ _, HX.out.below ((Below.refl _ _).alloc (Nat.le_refl _) _), (Below.refl _ _).alloc (Nat.le_refl _) _⟩
          case round =>
            obtain ⟨k, hk, rfl, rfl, d0, hxk, hbel⟩ := hrel
            by_cases hlt : (k : Int) < (xs.length : Int)
            · obtain ⟨b, off, rfl, _, hc⟩ := hxk.reads.2 (by omega)
              have hcell : wr.cell? ⟨b, off + k, none⟩ = some (.float .f64 (ge xs k)) := hc k (by omega)
              have hs := HAD.out k (by omega)
              have hld := HLD.out k (by omega)
              have hmu := (HNT.out k (by omega)).2.2.1
              rw [show ldS (ge xs k) (-K) = scT xs K k from rfl] at hld
              obtain ⟨s1, h1⟩ : ∃ s1, s1 = sumT (sqT xs K) (k + 1) := ⟨_, rfl⟩
              obtain ⟨s0, h0⟩ : ∃ s0, s0 = sumT (sqT xs K) k := ⟨_, rfl⟩
              rw [← h1, ← h0] at hs
              rw [← h0] at d0 ⊢
              clear h0
              have hn := HX.out.old (Nat.le_refl w.heap.size)
              have hm : floatBits .mul .f64 (scT xs K k) (scT xs K k) = some (sqT xs K k) := hmu
              have hrun := fun (w : World) => run_float_arith (P := Try.prog) w .mul 24 .f64 _ _ _ hm
              have HS := Lib.hid hs; have HN := Lib.hid hn; have HK := Lib.hid hxk; have H1' := Lib.hid h1; have HD := Lib.hid d0; have HE := Lib.hid hbel
              have HLK := Lib.hid hld
              clear hc hs hn hxk h1 d0 hbel hmu hm hld
              generalize ge xs k = x at *
              generalize scT xs K k = y at *
              generalize sqT xs K k = q at *
              go_wp2_with (first
                | (go_at_call 50; refine (HLK.out _).mono ?_; rintro e w' ⟨rfl, rfl⟩)
                | (go_at_call 67; refine (count_any s0 q s1 w.heap.size _ wr HD.out HS.out).mono ?_; rintro e w' ⟨rfl, rfl⟩))
              go_roundw
              case rel => exact ⟨k + 1, by omega, by go_num, by rw [H1'.out], by rw [← H1'.out]; exact HD.out.set1 _, HK.out.setCell HN.out _, HE.out.setCell (Nat.le_refl _) _⟩
              case measure => simp [intOf]; omega
            · obtain rfl : k = xs.length := by omega
              have HE := Lib.hid hbel
              clear d0 hxk hbel
              go_wp2_with (first
                | (go_at_call 51; refine (HSQ.out _).mono ?_; rintro e w' ⟨rfl, rfl⟩)
                | (go_at_call 50; refine (HLF.out _).mono ?_; rintro e w' ⟨rfl, rfl⟩))
              go_ret2
              exact ⟨by rw [HR.out]; rfl, HE.out⟩

end Go.Proofs.Ytfnhcgpdlhndhaa

/- Contracts of package kern: Axpy. -/
namespace Go.Proofs.Ytfnhcgpdlhndhaa
open Go.RowKit Go.Shelf Lev

attribute [local go_sem] order_lt order_gt order_eq order_ne flt_or_feq flt_or_feq' run_store_float

theorem SlArg.made {w : World} {g n : Nat} {t : TypeId} {C : Array Value} {f : Nat → Nat} (h : Bk w g t C) (hn : n ≤ 9223372036854775807) (hc : ∀ i, i < n → C[i]? = some (.float .f64 (f i))) (hf : ∀ i, i < n → f i < 18446744073709551616) : SlArg w (some ⟨g, 0, none⟩) ((List.range n).map f) n := by
  refine ⟨⟨fun x hx => ?_, fun hl => ⟨g, 0, rfl, h.lt, fun j hj => ?_⟩⟩, by simp, hn⟩
  · rw [List.mem_map] at hx
    obtain ⟨i, hi, rfl⟩ := hx
    exact hf i (by simpa using hi)
  · simp at hj
    rw [Nat.zero_add, h.cell, hc j hj]
    simp [hj]

set_option maxHeartbeats 1000000 in
theorem kaxpy_any (q : Nat) (hq : q < 18446744073709551616) (A : Option Addr) (xs : List Nat) (c : Nat) (B : Option Addr) (ys : List Nat) (d : Nat) (w : World) (hx : SlArg w A xs c) (hy : SlArg w B ys d) (hl : xs.length ≤ 40) :
    Calls Try.prog 18 #[.float .f64 q, .slice A xs.length c, .slice B ys.length d] w fun e w' => (∃ R m, e = .returned (.tuple #[.slice R (axF q xs ys).length m, .bool (axB q xs ys)]) ∧ SlArg w' R (axF q xs ys) m) ∧ Below w.heap.size w w' := by
  have H1 := Lib.hid (fitk_any A xs c B ys d w hx hy)
  have H2 := Lib.hid (in_any q hq w)
  cases ha : axB q xs ys
  · have hr : axF q xs ys = [] := by unfold axF; rw [if_neg (by rw [ha]; decide)]
    rw [hr]
    unfold axB at ha
    have hres : (∃ R m, Ending.returned (.tuple #[.slice none 0 0, .bool false]) = Ending.returned (.tuple #[.slice R ([] : List Nat).length m, .bool false]) ∧ SlArg w R [] m) := ⟨none, 0, rfl, ⟨FlR.nil _ _ _, by decide, by decide⟩⟩
    have HR := Lib.hid hres
    clear hr hx hy hres
    cases hf : fitS xs ys
    · rw [hf] at H1
      clear hf ha
      go_enter Try.func18, Try.ntmps18
      go_wp2_with (go_at_call 42; refine H1.out.mono ?_; rintro e w' ⟨rfl, rfl⟩)
      go_ret2
      exact ⟨HR.out, Below.refl _ _⟩
    · rw [hf, Bool.true_and] at ha
      rw [hf] at H1
      rw [ha] at H2
      clear hf ha
      go_enter Try.func18, Try.ntmps18
      go_wp2_with (first | (go_at_call 42; refine H1.out.mono ?_; rintro e w' ⟨rfl, rfl⟩) | (go_at_call 46; refine H2.out.mono ?_; rintro e w' ⟨rfl, rfl⟩))
      go_ret2
      exact ⟨HR.out, Below.refl _ _⟩
  · have hr : axF q xs ys = (List.range xs.length).map (axT q xs ys) := by unfold axF; rw [if_pos ha]
    have hrl : (axF q xs ys).length = xs.length := by rw [hr]; simp
    rw [hrl]
    have HT := Lib.hid (fun k (hk : k < xs.length) => axT_bd ha hk)
    have ha2 := ha
    unfold axB at ha2
    rw [Bool.and_eq_true] at ha2
    rw [ha2.1] at H1
    rw [ha2.2] at H2
    obtain ⟨hlen, _, _⟩ := fitS_iff.mp ha2.1
    have HL := Lib.hid hlen
    have HR := Lib.hid hr
    have HX := Lib.hid hx
    have HY := Lib.hid hy
    have hmk := fun w => run_make_row' (P := Try.prog) 22 24 (.float .f64 0) 8 Try.underlying22 info_f64' rfl .i64 .i64 xs.length (by omega) (by omega) w
    clear ha ha2 hr hrl hx hy hlen
    go_enter Try.func18, Try.ntmps18
    go_wp2_with (first | (go_at_call 42; refine H1.out.mono ?_; rintro e w' ⟨rfl, rfl⟩) | (go_at_call 46; refine H2.out.mono ?_; rintro e w' ⟨rfl, rfl⟩))
    go_loopw [26] (fun i wr => ∃ (k : Nat) (C : Array Value), k ≤ xs.length ∧ i = .int .i64 (k : Int) ∧ Bk wr w.heap.size 24 C ∧ (∀ i, i < xs.length → ∃ y, C[i]? = some (.float .f64 y)) ∧ (∀ i, i < k → C[i]? = some (.float .f64 (axT q xs ys i))) ∧ SlArg wr A xs c ∧ SlArg wr B ys d ∧ Below w.heap.size w wr) (fun i _ => xs.length - (intOf i).toNat)
    case atStart => exact ⟨0, _, Nat.zero_le _, rfl, Bk.new _ _ _, fun i hi => ⟨0, cells_zero _ _ i hi⟩, fun i hi => absurd hi (Nat.not_lt_zero i), HX.out.below ((Below.refl _ _).alloc (Nat.le_refl _) _), HY.out.below ((Below.refl _ _).alloc (Nat.le_refl _) _), (Below.refl _ _).alloc (Nat.le_refl _) _⟩
    case round =>
      obtain ⟨k, C, hk, rfl, d0, hall, hdone, hxk, hyk, hbel⟩ := hrel
      by_cases hlt : (k : Int) < (xs.length : Int)
      · have hlt2 : (k : Int) < (ys.length : Int) := by have := HL.out; omega
        obtain ⟨b, off, rfl, _, hc⟩ := hxk.reads.2 (by omega)
        obtain ⟨b2, off2, rfl, _, hc2⟩ := hyk.reads.2 (by omega)
        have hcell : wr.cell? ⟨b, off + k, none⟩ = some (.float .f64 (ge xs k)) := hc k (by omega)
        have hcell2 : wr.cell? ⟨b2, off2 + k, none⟩ = some (.float .f64 (ge ys k)) := hc2 k (by omega)
        obtain ⟨y0, hy0⟩ := hall k (by omega)
        have hcell3 : wr.cell? ⟨w.heap.size, k, none⟩ = some (.float .f64 y0) := (d0.cell k).trans hy0
        have hfz : wr.frozen? ⟨w.heap.size, k, none⟩ = false := d0.frozen k
        have ht := HT.out k (by omega)
        have hm : floatBits .mul .f64 q (ge xs k) = some (fmul q (ge xs k)) := ht.1
        have hrun := fun (w : World) => run_float_arith (P := Try.prog) w .mul 24 .f64 _ _ _ hm
        have hm2 : floatBits .add .f64 (ge ys k) (fmul q (ge xs k)) = some (axT q xs ys k) := ht.2.1
        have hrun2 := fun (w : World) => run_float_arith (P := Try.prog) w .add 24 .f64 _ _ _ hm2
        obtain ⟨s1, h1⟩ : ∃ s1, s1 = axT q xs ys k := ⟨_, rfl⟩
        rw [← h1] at hrun2
        have hn := HX.out.old (Nat.le_refl w.heap.size)
        have hn2 := HY.out.old (Nat.le_refl w.heap.size)
        have HN := Lib.hid hn; have HN2 := Lib.hid hn2; have HK := Lib.hid hxk; have HK2 := Lib.hid hyk; have H1' := Lib.hid h1; have HD := Lib.hid d0; have HE := Lib.hid hbel
        have HA := Lib.hid hall; have HDo := Lib.hid hdone
        generalize ge xs k = x at *
        generalize ge ys k = y at *
        generalize fmul q x = p at *
        clear hc hc2 hn hn2 hxk hyk h1 d0 hbel hm hm2 ht hall hdone hy0
        go_wp2
        go_roundw
        case rel =>
          refine ⟨k + 1, _, by omega, by go_num, HD.out.set k _, ?_, ?_, HK.out.setCell HN.out _, HK2.out.setCell HN2.out _, HE.out.setCell (Nat.le_refl _) _⟩
          · intro i hi
            obtain ⟨y, hy⟩ := HA.out i hi
            by_cases h : i = k
            · subst h
              have hs : i < C.size := by rw [Array.getElem?_eq_some_iff] at hy; exact hy.1
              exact ⟨s1, by simp [hs]⟩
            · exact ⟨y, by rw [Array.getElem?_setIfInBounds_ne (fun hh => h hh.symm)]; exact hy⟩
          · intro i hi
            by_cases h : i = k
            · subst h
              obtain ⟨y, hy⟩ := HA.out i (by omega)
              have hs : i < C.size := by rw [Array.getElem?_eq_some_iff] at hy; exact hy.1
              rw [← H1'.out]; simp [hs]
            · rw [Array.getElem?_setIfInBounds_ne (fun hh => h hh.symm)]; exact HDo.out i (by omega)
        case measure => simp [intOf]; omega
      · obtain rfl : k = xs.length := by omega
        have hs := SlArg.made (f := axT q xs ys) d0 (by omega) hdone (fun i hi => (HT.out i hi).2.2.2)
        rw [← HR.out] at hs
        have HS := Lib.hid hs
        have HE := Lib.hid hbel
        clear d0 hxk hyk hbel hs hall hdone
        go_wp2
        go_ret2
        exact ⟨⟨_, _, rfl, HS.out⟩, HE.out⟩

end Go.Proofs.Ytfnhcgpdlhndhaa

/- live of layer 5. -/
namespace Lev
theorem kw1 : dotF [4607182418800017408, 4611686018427387904, 4613937818241073152] [4616189618054758400, 13840687554816376832, 4618441417868443648] = 4622945017495814144 := by decide +kernel
theorem kw2 : fitS [4607182418800017408, 4611686018427387904, 4613937818241073152] [4616189618054758400, 13840687554816376832, 4618441417868443648] = true := by decide +kernel
theorem kw3 : dotF [4607182418800017408] [] = 0 := by decide +kernel
theorem kw4 : fitS [4607182418800017408] [] = false := by decide +kernel
theorem kw5 : normF [4613937818241073152, 13839561654909534208] = 4617315517961601024 := by decide +kernel
theorem kw6 : allIn [4613937818241073152, 13839561654909534208] = true := by decide +kernel
theorem kw7 : makeF false 1 400 = 6408622269748215808 := by decide +kernel
theorem kw8 : normF [6408622269748215808, 0] = 6408622269748215808 := by decide +kernel
theorem kw9 : allIn [6408622269748215808, 0] = true := by decide +kernel
theorem kw10 : sumF [4607182418800017408, 13835058055282163712] = 4613937818241073152 := by decide +kernel
theorem kw11 : allIn [4607182418800017408, 13835058055282163712] = true := by decide +kernel
theorem kw12 : axF 4611686018427387904 [4607182418800017408, 4613937818241073152] [4617315517961601024, 4619567317775286272] = [4619567317775286272, 4623507967449235456] := by decide +kernel
theorem kw13 : axB 4611686018427387904 [4607182418800017408, 4613937818241073152] [4617315517961601024, 4619567317775286272] = true := by decide +kernel
theorem kw14 : makeF false 1 401 = 6413125869375586304 := by decide +kernel
theorem kw15 : allIn [4607182418800017408, 6413125869375586304] = false := by decide +kernel
theorem kw16 : allIn [] = true := rfl
theorem kc1 : feq 4622945017495814144 4622945017495814144 = true := by decide
theorem kc2 : feq 4617315517961601024 4617315517961601024 = true := by decide
theorem kc3 : feq 6408622269748215808 6408622269748215808 = true := by decide
theorem kc4 : feq 4613937818241073152 4613937818241073152 = true := by decide
theorem kc5 : feq 4619567317775286272 4619567317775286272 = true := by decide
theorem kc6 : feq 4623507967449235456 4623507967449235456 = true := by decide
end Lev
namespace Go.Proofs.Ytfnhcgpdlhndhaa
open Go.RowKit Go.Shelf Lev

attribute [local go_sem] order_lt order_gt order_eq order_ne flt_or_feq flt_or_feq' kc1 kc2 kc3 kc4 kc5 kc6

theorem slLit {W : World} {g : Nat} {t : TypeId} {xs : List Nat} (h : Bk W g t (xs.map (Value.float .f64)).toArray) (hx : ∀ x ∈ xs, x < 18446744073709551616) (hl : xs.length ≤ 9223372036854775807) : SlArg W (some ⟨g, 0, none⟩) xs xs.length := by
  refine ⟨⟨hx, fun _ => ⟨g, 0, rfl, h.lt, fun j hj => ?_⟩⟩, Nat.le_refl _, hl⟩
  rw [Nat.zero_add, h.cell]
  simp [hj]

theorem ldot (W : World) : Calls Try.prog 12 #[.slice (some ⟨W.heap.size, 0, none⟩) 3 3, .slice (some ⟨W.heap.size + 1, 0, none⟩) 3 3] ((W.alloc (.cells #[.float .f64 4607182418800017408, .float .f64 4611686018427387904, .float .f64 4613937818241073152] 24)).alloc (.cells #[.float .f64 4616189618054758400, .float .f64 13840687554816376832, .float .f64 4618441417868443648] 24))
    fun e w' => e = .returned (.tuple #[.float .f64 4622945017495814144, .bool true]) ∧ Below W.heap.size W w' := by
  have K := ((Keep.start W).alloc #[.float .f64 4607182418800017408, .float .f64 4611686018427387904, .float .f64 4613937818241073152] 24).alloc #[.float .f64 4616189618054758400, .float .f64 13840687554816376832, .float .f64 4618441417868443648] 24
  have h1 := slLit (xs := [4607182418800017408, 4611686018427387904, 4613937818241073152]) (K.box (.tail _ (.head _))) (by decide) (by decide)
  have h2 := slLit (xs := [4616189618054758400, 13840687554816376832, 4618441417868443648]) (K.box (.head _)) (by decide) (by decide)
  have h := kdot_any _ _ _ _ _ _ _ h1 h2 (by decide)
  rw [kw1, kw2, World.size_alloc] at h
  exact h.mono fun e w' ⟨a, b⟩ => ⟨a, Below.chain K.below b⟩
theorem ldot0 (W : World) : Calls Try.prog 12 #[.slice (some ⟨W.heap.size, 0, none⟩) 1 1, .slice none 0 0] (W.alloc (.cells #[.float .f64 4607182418800017408] 24))
    fun e w' => e = .returned (.tuple #[.float .f64 0, .bool false]) ∧ Below W.heap.size W w' := by
  have K := (Keep.start W).alloc #[.float .f64 4607182418800017408] 24
  have h1 := slLit (xs := [4607182418800017408]) (K.box (.head _)) (by decide) (by decide)
  have h := kdot_any _ _ _ none [] 0 _ h1 ⟨FlR.nil _ _ _, by decide, by decide⟩ (by decide)
  rw [kw3, kw4] at h
  exact h.mono fun e w' ⟨a, b⟩ => ⟨a, Below.chain K.below b⟩
theorem lnorm (W : World) : Calls Try.prog 21 #[.slice (some ⟨W.heap.size, 0, none⟩) 2 2] (W.alloc (.cells #[.float .f64 4613937818241073152, .float .f64 13839561654909534208] 24))
    fun e w' => e = .returned (.tuple #[.float .f64 4617315517961601024, .bool true]) ∧ Below W.heap.size W w' := by
  have K := (Keep.start W).alloc #[.float .f64 4613937818241073152, .float .f64 13839561654909534208] 24
  have h1 := slLit (xs := [4613937818241073152, 13839561654909534208]) (K.box (.head _)) (by decide) (by decide)
  have h := knorm_any _ _ _ _ h1 (by decide)
  rw [kw5, kw6] at h
  exact h.mono fun e w' ⟨a, b⟩ => ⟨a, Below.chain K.below b⟩
theorem lnorm2 (W : World) : Calls Try.prog 21 #[.slice (some ⟨W.heap.size, 0, none⟩) 2 2] (W.alloc (.cells #[.float .f64 6408622269748215808, .float .f64 0] 24))
    fun e w' => e = .returned (.tuple #[.float .f64 6408622269748215808, .bool true]) ∧ Below W.heap.size W w' := by
  have K := (Keep.start W).alloc #[.float .f64 6408622269748215808, .float .f64 0] 24
  have h1 := slLit (xs := [6408622269748215808, 0]) (K.box (.head _)) (by decide) (by decide)
  have h := knorm_any _ _ _ _ h1 (by decide)
  rw [kw8, kw9] at h
  exact h.mono fun e w' ⟨a, b⟩ => ⟨a, Below.chain K.below b⟩
theorem lsum (W : World) : Calls Try.prog 20 #[.slice (some ⟨W.heap.size, 0, none⟩) 2 2] (W.alloc (.cells #[.float .f64 4607182418800017408, .float .f64 13835058055282163712] 24))
    fun e w' => e = .returned (.tuple #[.float .f64 4613937818241073152, .bool true]) ∧ Below W.heap.size W w' := by
  have K := (Keep.start W).alloc #[.float .f64 4607182418800017408, .float .f64 13835058055282163712] 24
  have h1 := slLit (xs := [4607182418800017408, 13835058055282163712]) (K.box (.head _)) (by decide) (by decide)
  have h := ksum_any _ _ _ _ h1 (by decide)
  rw [kw10, kw11] at h
  exact h.mono fun e w' ⟨a, b⟩ => ⟨a, Below.chain K.below b⟩
theorem laxpy (W : World) : Calls Try.prog 18 #[.float .f64 4611686018427387904, .slice (some ⟨W.heap.size, 0, none⟩) 2 2, .slice (some ⟨W.heap.size + 1, 0, none⟩) 2 2] ((W.alloc (.cells #[.float .f64 4607182418800017408, .float .f64 4613937818241073152] 24)).alloc (.cells #[.float .f64 4617315517961601024, .float .f64 4619567317775286272] 24))
    fun e w' => (∃ b o m, e = .returned (.tuple #[.slice (some ⟨b, o, none⟩) 2 m, .bool true]) ∧ w'.cell? ⟨b, o, none⟩ = some (.float .f64 4619567317775286272) ∧ w'.cell? ⟨b, o + 1, none⟩ = some (.float .f64 4623507967449235456) ∧ b < w'.heap.size) ∧ Below W.heap.size W w' := by
  have K := ((Keep.start W).alloc #[.float .f64 4607182418800017408, .float .f64 4613937818241073152] 24).alloc #[.float .f64 4617315517961601024, .float .f64 4619567317775286272] 24
  have h1 := slLit (xs := [4607182418800017408, 4613937818241073152]) (K.box (.tail _ (.head _))) (by decide) (by decide)
  have h2 := slLit (xs := [4617315517961601024, 4619567317775286272]) (K.box (.head _)) (by decide) (by decide)
  have h := kaxpy_any 4611686018427387904 (by decide) _ _ _ _ _ _ _ h1 h2 (by decide)
  rw [kw12, kw13, World.size_alloc] at h
  refine h.mono fun e w' ⟨⟨R, m, a, hs⟩, b⟩ => ⟨?_, Below.chain K.below b⟩
  obtain ⟨b, o, rfl, hb, hc⟩ := hs.reads.2 (by decide)
  exact ⟨b, o, m, a, hc 0 (by decide), hc 1 (by decide), hb⟩

set_option maxRecDepth 100000 in
set_option maxHeartbeats 1000000 in
theorem live05 (w : World) : Calls Try.prog 11 #[] w fun e w' => e = .returned (.bool true) ∧ Below w.heap.size w w' := by
  have hp := fun W => pow_any 400 W
  rw [kw7] at hp
  have hq := fun W => pow_any 401 W
  rw [kw14] at hq
  have HP := Lib.hid hp; have HQ := Lib.hid hq
  clear hp hq
  go_enter Try.func11, Try.ntmps11
  go_wp2_with fail
  refine (ldot w).mono ?_
  rintro e w1 ⟨rfl, hb1⟩
  have B1 := Lib.hid hb1
  clear hb1
  go_wp2_with fail
  refine (ldot0 w1).mono ?_
  rintro e w2 ⟨rfl, hb2⟩
  have B2 := Lib.hid (Below.chain B1.out hb2)
  clear hb2 B1
  go_wp2_with fail
  refine (lnorm w2).mono ?_
  rintro e w3 ⟨rfl, hb3⟩
  have B3 := Lib.hid (Below.chain B2.out hb3)
  clear hb3 B2
  go_wp2_with fail
  refine (HP.out _).mono ?_
  rintro e w' ⟨rfl, rfl⟩
  go_wp2_with fail
  refine (lnorm2 w3).mono ?_
  rintro e w4 ⟨rfl, hb4⟩
  have B4 := Lib.hid (Below.chain B3.out hb4)
  clear hb4 B3
  go_wp2_with fail
  refine (lsum w4).mono ?_
  rintro e w5 ⟨rfl, hb5⟩
  have B5 := Lib.hid (Below.chain B4.out hb5)
  clear hb5 B4
  go_wp2_with fail
  refine (laxpy w5).mono ?_
  rintro e w6 ⟨⟨b, o, m, rfl, c0, c1, hlt⟩, hb6⟩
  have B6 := Lib.hid (Below.chain B5.out hb6)
  clear hb6 B5
  have hnil : SlArg w6 none [] 0 := ⟨FlR.nil _ _ _, by decide, by decide⟩
  have HN := Lib.hid (kall_any none [] 0 w6 hnil)
  rw [kw16] at HN
  have K := (Keep.start w6).alloc #[.float .f64 4607182418800017408, .float .f64 6413125869375586304] 24
  have HB := Lib.hid (kall_any _ _ _ _ (slLit (xs := [4607182418800017408, 6413125869375586304]) (K.box (.head _)) (by decide) (by decide)))
  rw [kw15] at HB
  have HK := Lib.hid K.below
  clear K hnil
  go_wp2_with fail
  refine (HP.out _).mono ?_
  rintro e w' ⟨rfl, rfl⟩
  go_wp2_with fail
  refine HN.out.mono ?_
  rintro e w' ⟨rfl, rfl⟩
  go_wp2_with fail
  refine (HQ.out _).mono ?_
  rintro e w' ⟨rfl, rfl⟩
  go_wp2_with fail
  refine HB.out.mono ?_
  rintro e w' ⟨rfl, rfl⟩
  go_wp2
  go_ret
  exact ⟨rfl, Below.chain B6.out HK.out⟩

end Go.Proofs.Ytfnhcgpdlhndhaa
