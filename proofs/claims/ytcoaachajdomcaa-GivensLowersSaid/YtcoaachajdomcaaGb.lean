/- Contracts of package kern: the counter, Sum, Dot. -/
import Derived.Test.YtcoaachajdomcaaGa
namespace Go.Proofs.Ytcoaachajdomcaa
open Go.RowKit Go.Shelf Lev

attribute [local go_sem] order_lt order_gt order_eq order_ne flt_or_feq flt_or_feq' run_store_float

set_option maxHeartbeats 400000 in
/-- A new counter. -/
theorem counter_any (w : World) :
    Calls Try.prog 35 #[] w fun e w' => e = .returned (.func (.func 54) #[] #[.pointer (some ⟨w.heap.size, 0, none⟩)]) ∧ w' = w.alloc (.cells #[.float .f64 0] 22) := by
  go_enter Try.func35, Try.ntmps35
  go_wp2
  go_ret
  exact ⟨rfl, rfl⟩

set_option maxHeartbeats 1000000 in
theorem ksum_any (A : Option Addr) (xs : List Nat) (c : Nat) (w : World) (hx : SlArg w A xs c) (hl : xs.length ≤ 40) :
    Calls Try.prog 13 #[.slice A xs.length c] w fun e w' => e = .returned (.tuple #[.float .f64 (sumF xs), .bool (allIn xs)]) ∧ Below w.heap.size w w' := by
  have H1 := Lib.hid (kall_any A xs c w hx)
  cases ha : allIn xs
  · rw [ha] at H1
    have hr : sumF xs = 0 := by unfold sumF; rw [if_neg (by rw [ha]; decide)]
    rw [hr]
    clear ha hr hx
    go_enter Try.func13, Try.ntmps13
    go_wp2_with fail
    refine H1.out.mono ?_
    rintro e w' ⟨rfl, rfl⟩
    go_wp2
    go_ret2
    exact ⟨rfl, Below.refl _ _⟩
  · rw [ha] at H1
    have hr : sumF xs = sumT (absT xs) xs.length := by unfold sumF; rw [if_pos ha]
    rw [hr]
    have HT := Lib.hid (fun k (hk : k < xs.length) => sumT_add (t := absT xs) (E := 400) (by decide) (by decide) (k := k) (by omega) (fun i hi => absT_bd ha (by omega)))
    have HX := Lib.hid hx
    clear ha hr hx
    go_enter Try.func13, Try.ntmps13
    go_wp2_with (first | (go_at_call 19; refine H1.out.mono ?_; rintro e w' ⟨rfl, rfl⟩) | (go_at_call 35; refine (counter_any _).mono ?_; rintro e w' ⟨rfl, rfl⟩))
    go_loopw [4, 14] (fun s i wr => ∃ k : Nat, k ≤ xs.length ∧ i = .int .i64 (k : Int) ∧ s = .float .f64 (sumT (absT xs) k) ∧ Bk wr w.heap.size 22 #[.float .f64 (sumT (absT xs) k)] ∧ SlArg wr A xs c ∧ Below w.heap.size w wr) (fun _ i _ => xs.length - (intOf i).toNat)
    case atStart => exact ⟨0, Nat.zero_le _, rfl, rfl, Bk.new _ _ _, HX.out.below ((Below.refl _ _).alloc (Nat.le_refl _) _), (Below.refl _ _).alloc (Nat.le_refl _) _⟩
    case round =>
      obtain ⟨k, hk, rfl, rfl, d0, hxk, hbel⟩ := hrel
      by_cases hlt : (k : Int) < (xs.length : Int)
      · obtain ⟨b, off, rfl, _, hc⟩ := hxk.reads.2 (by omega)
        have hcell : wr.cell? ⟨b, off + k, none⟩ = some (.float .f64 (ge xs k)) := hc k (by omega)
        have hb : ge xs k < 18446744073709551616 := hxk.reads.lt k
        have hs := HT.out k (by omega)
        rw [show absT xs k = rg (ge xs k) from rfl] at hs
        obtain ⟨s1, h1⟩ : ∃ s1, s1 = sumT (absT xs) (k + 1) := ⟨_, rfl⟩
        obtain ⟨s0, h0⟩ : ∃ s0, s0 = sumT (absT xs) k := ⟨_, rfl⟩
        rw [← h1, ← h0] at hs
        rw [← h0] at d0 ⊢
        clear h0
        have hn := HX.out.old (Nat.le_refl w.heap.size)
        have HS := Lib.hid hs; have HN := Lib.hid hn; have HK := Lib.hid hxk; have H1' := Lib.hid h1; have HD := Lib.hid d0; have HB := Lib.hid hb; have HE := Lib.hid hbel
        generalize ge xs k = x at *
        clear hc hs hn hxk h1 d0 hb hbel
        go_wp2_with (first
          | (go_at_call 21; refine (abs_any _ HB.out _).mono ?_; rintro e w' ⟨rfl, rfl⟩)
          | (go_at_call 54; refine (count_any s0 (rg x) s1 w.heap.size _ wr HD.out HS.out).mono ?_; rintro e w' ⟨rfl, rfl⟩))
        go_roundw
        case rel => exact ⟨k + 1, by omega, by go_num, by rw [H1'.out], by rw [← H1'.out]; exact HD.out.set1 _, HK.out.setCell HN.out _, HE.out.setCell (Nat.le_refl _) _⟩
        case measure => simp [intOf]; omega
      · obtain rfl : k = xs.length := by omega
        have HE := Lib.hid hbel
        clear d0 hxk hbel
        go_wp2
        go_ret2
        exact ⟨rfl, HE.out⟩

set_option maxHeartbeats 1000000 in
theorem kdot_any (A : Option Addr) (xs : List Nat) (c : Nat) (B : Option Addr) (ys : List Nat) (d : Nat) (w : World) (hx : SlArg w A xs c) (hy : SlArg w B ys d) (hl : xs.length ≤ 40) :
    Calls Try.prog 9 #[.slice A xs.length c, .slice B ys.length d] w fun e w' => e = .returned (.tuple #[.float .f64 (dotF xs ys), .bool (fitS xs ys)]) ∧ Below w.heap.size w w' := by
  have H1 := Lib.hid (fitk_any A xs c B ys d w hx hy)
  cases ha : fitS xs ys
  · rw [ha] at H1
    have hr : dotF xs ys = 0 := by unfold dotF; rw [if_neg (by rw [ha]; decide)]
    rw [hr]
    clear ha hr hx hy
    go_enter Try.func9, Try.ntmps9
    go_wp2_with fail
    refine H1.out.mono ?_
    rintro e w' ⟨rfl, rfl⟩
    go_wp2
    go_ret2
    exact ⟨rfl, Below.refl _ _⟩
  · rw [ha] at H1
    have hr : dotF xs ys = sumT (dotT xs ys) xs.length := by unfold dotF; rw [if_pos ha]
    rw [hr]
    have HT := Lib.hid (fun k (hk : k < xs.length) => sumT_add (t := dotT xs ys) (E := 800) (by decide) (by decide) (k := k) (by omega) (fun i hi => dotT_bd ha (by omega)))
    obtain ⟨hlen, hax, hay⟩ := fitS_iff.mp ha
    have HM := Lib.hid (fun k (hk : k < xs.length) => (prod_in (allIn_get hax hk) (allIn_get hay (hlen ▸ hk))).1)
    have HX := Lib.hid hx
    have HY := Lib.hid hy
    have HL := Lib.hid hlen
    clear ha hr hx hy hax hay hlen
    go_enter Try.func9, Try.ntmps9
    go_wp2_with (first | (go_at_call 34; refine H1.out.mono ?_; rintro e w' ⟨rfl, rfl⟩) | (go_at_call 35; refine (counter_any _).mono ?_; rintro e w' ⟨rfl, rfl⟩))
    go_loopw [6, 18] (fun s i wr => ∃ k : Nat, k ≤ xs.length ∧ i = .int .i64 (k : Int) ∧ s = .float .f64 (sumT (dotT xs ys) k) ∧ Bk wr w.heap.size 22 #[.float .f64 (sumT (dotT xs ys) k)] ∧ SlArg wr A xs c ∧ SlArg wr B ys d ∧ Below w.heap.size w wr) (fun _ i _ => xs.length - (intOf i).toNat)
    case atStart => exact ⟨0, Nat.zero_le _, rfl, rfl, Bk.new _ _ _, HX.out.below ((Below.refl _ _).alloc (Nat.le_refl _) _), HY.out.below ((Below.refl _ _).alloc (Nat.le_refl _) _), (Below.refl _ _).alloc (Nat.le_refl _) _⟩
    case round =>
      obtain ⟨k, hk, rfl, rfl, d0, hxk, hyk, hbel⟩ := hrel
      by_cases hlt : (k : Int) < (xs.length : Int)
      · have hlt2 : (k : Int) < (ys.length : Int) := by have := HL.out; omega
        obtain ⟨b, off, rfl, _, hc⟩ := hxk.reads.2 (by omega)
        obtain ⟨b2, off2, rfl, _, hc2⟩ := hyk.reads.2 (by omega)
        have hcell : wr.cell? ⟨b, off + k, none⟩ = some (.float .f64 (ge xs k)) := hc k (by omega)
        have hcell2 : wr.cell? ⟨b2, off2 + k, none⟩ = some (.float .f64 (ge ys k)) := hc2 k (by omega)
        have hs := HT.out k (by omega)
        have hp := HM.out k (by omega)
        rw [show dotT xs ys k = fmul (ge xs k) (ge ys k) from rfl] at hs
        obtain ⟨s1, h1⟩ : ∃ s1, s1 = sumT (dotT xs ys) (k + 1) := ⟨_, rfl⟩
        obtain ⟨s0, h0⟩ : ∃ s0, s0 = sumT (dotT xs ys) k := ⟨_, rfl⟩
        rw [← h1, ← h0] at hs
        rw [← h0] at d0 ⊢
        clear h0
        have hn := HX.out.old (Nat.le_refl w.heap.size)
        have hn2 := HY.out.old (Nat.le_refl w.heap.size)
        have HS := Lib.hid hs; have HN := Lib.hid hn; have HN2 := Lib.hid hn2; have HK := Lib.hid hxk; have HK2 := Lib.hid hyk; have H1' := Lib.hid h1; have HD := Lib.hid d0; have HE := Lib.hid hbel
        have hm : floatBits .mul .f64 (ge xs k) (ge ys k) = some (fmul (ge xs k) (ge ys k)) := hp
        have hrun := fun (w : World) => run_float_arith (P := Try.prog) w .mul 22 .f64 _ _ _ hm
        generalize ge xs k = x at *
        generalize ge ys k = y at *
        generalize fmul x y = p at *
        clear hc hc2 hs hn hn2 hxk hyk h1 d0 hbel hp hm
        go_wp2_with (go_at_call 54; refine (count_any s0 p s1 w.heap.size _ wr HD.out HS.out).mono ?_; rintro e w' ⟨rfl, rfl⟩)
        go_roundw
        case rel => exact ⟨k + 1, by omega, by go_num, by rw [H1'.out], by rw [← H1'.out]; exact HD.out.set1 _, HK.out.setCell HN.out _, HK2.out.setCell HN2.out _, HE.out.setCell (Nat.le_refl _) _⟩
        case measure => simp [intOf]; omega
      · obtain rfl : k = xs.length := by omega
        have HE := Lib.hid hbel
        clear d0 hxk hyk hbel
        go_wp2
        go_ret2
        exact ⟨rfl, HE.out⟩

end Go.Proofs.Ytcoaachajdomcaa
