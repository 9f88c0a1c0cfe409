/- Contracts of package kern: Axpy. -/
import Derived.Test.YtcoaachajdomcaaGc
import Derived.Test.YtcoaachajdomcaaCf
namespace Go.Proofs.Ytcoaachajdomcaa
open Go.RowKit Go.Shelf Lev

attribute [local go_sem] order_lt order_gt order_eq order_ne flt_or_feq flt_or_feq' run_store_float

theorem SlArg.made {w : World} {g n : Nat} {t : TypeId} {C : Array Value} {f : Nat → Nat} (h : Bk w g t C) (hn : n ≤ 9223372036854775807) (hc : ∀ i, i < n → C[i]? = some (.float .f64 (f i))) (hf : ∀ i, i < n → f i < 18446744073709551616) : SlArg w (some ⟨g, 0, none⟩) ((List.range n).map f) n := by
  refine ⟨⟨fun x hx => ?_, fun hl => ⟨g, 0, rfl, h.lt, fun j hj => ?_⟩⟩, by simp, hn⟩
  · rw [List.mem_map] at hx
    obtain ⟨i, hi, rfl⟩ := hx
    exact hf i (by simpa using hi)
  · simp at hj
    rw [Nat.zero_add, h.cell, hc j hj]
    simp [hj]

set_option maxHeartbeats 1000000 in
theorem kaxpy_any (q : Nat) (hq : q < 18446744073709551616) (A : Option Addr) (xs : List Nat) (c : Nat) (B : Option Addr) (ys : List Nat) (d : Nat) (w : World) (hx : SlArg w A xs c) (hy : SlArg w B ys d) (hl : xs.length ≤ 40) :
    Calls Try.prog 11 #[.float .f64 q, .slice A xs.length c, .slice B ys.length d] w fun e w' => (∃ R m, e = .returned (.tuple #[.slice R (axF q xs ys).length m, .bool (axB q xs ys)]) ∧ SlArg w' R (axF q xs ys) m) ∧ Below w.heap.size w w' := by
  have H1 := Lib.hid (fitk_any A xs c B ys d w hx hy)
  have H2 := Lib.hid (in_any q hq w)
  cases ha : axB q xs ys
  · have hr : axF q xs ys = [] := by unfold axF; rw [if_neg (by rw [ha]; decide)]
    rw [hr]
    unfold axB at ha
    have hres : (∃ R m, Ending.returned (.tuple #[.slice none 0 0, .bool false]) = Ending.returned (.tuple #[.slice R ([] : List Nat).length m, .bool false]) ∧ SlArg w R [] m) := ⟨none, 0, rfl, ⟨FlR.nil _ _ _, by decide, by decide⟩⟩
    have HR := Lib.hid hres
    clear hr hx hy hres
    cases hf : fitS xs ys
    · rw [hf] at H1
      clear hf ha
      go_enter Try.func11, Try.ntmps11
      go_wp2_with (go_at_call 34; refine H1.out.mono ?_; rintro e w' ⟨rfl, rfl⟩)
      go_ret2
      exact ⟨HR.out, Below.refl _ _⟩
    · rw [hf, Bool.true_and] at ha
      rw [hf] at H1
      rw [ha] at H2
      clear hf ha
      go_enter Try.func11, Try.ntmps11
      go_wp2_with (first | (go_at_call 34; refine H1.out.mono ?_; rintro e w' ⟨rfl, rfl⟩) | (go_at_call 36; refine H2.out.mono ?_; rintro e w' ⟨rfl, rfl⟩))
      go_ret2
      exact ⟨HR.out, Below.refl _ _⟩
  · have hr : axF q xs ys = (List.range xs.length).map (axT q xs ys) := by unfold axF; rw [if_pos ha]
    have hrl : (axF q xs ys).length = xs.length := by rw [hr]; simp
    rw [hrl]
    have HT := Lib.hid (fun k (hk : k < xs.length) => axT_bd ha hk)
    have ha2 := ha
    unfold axB at ha2
    rw [Bool.and_eq_true] at ha2
    rw [ha2.1] at H1
    rw [ha2.2] at H2
    obtain ⟨hlen, _, _⟩ := fitS_iff.mp ha2.1
    have HL := Lib.hid hlen
    have HR := Lib.hid hr
    have HX := Lib.hid hx
    have HY := Lib.hid hy
    have hmk := fun w => run_make_row' (P := Try.prog) 23 22 (.float .f64 0) 8 Try.underlying23 info_f64' rfl .i64 .i64 xs.length (by omega) (by omega) w
    clear ha ha2 hr hrl hx hy hlen
    go_enter Try.func11, Try.ntmps11
    go_wp2_with (first | (go_at_call 34; refine H1.out.mono ?_; rintro e w' ⟨rfl, rfl⟩) | (go_at_call 36; refine H2.out.mono ?_; rintro e w' ⟨rfl, rfl⟩))
    go_loopw [26] (fun i wr => ∃ (k : Nat) (C : Array Value), k ≤ xs.length ∧ i = .int .i64 (k : Int) ∧ Bk wr w.heap.size 22 C ∧ (∀ i, i < xs.length → ∃ y, C[i]? = some (.float .f64 y)) ∧ (∀ i, i < k → C[i]? = some (.float .f64 (axT q xs ys i))) ∧ SlArg wr A xs c ∧ SlArg wr B ys d ∧ Below w.heap.size w wr) (fun i _ => xs.length - (intOf i).toNat)
    case atStart => exact ⟨0, _, Nat.zero_le _, rfl, Bk.new _ _ _, fun i hi => ⟨0, cells_zero _ _ i hi⟩, fun i hi => absurd hi (Nat.not_lt_zero i), HX.out.below ((Below.refl _ _).alloc (Nat.le_refl _) _), HY.out.below ((Below.refl _ _).alloc (Nat.le_refl _) _), (Below.refl _ _).alloc (Nat.le_refl _) _⟩
    case round =>
      obtain ⟨k, C, hk, rfl, d0, hall, hdone, hxk, hyk, hbel⟩ := hrel
      by_cases hlt : (k : Int) < (xs.length : Int)
      · have hlt2 : (k : Int) < (ys.length : Int) := by have := HL.out; omega
        obtain ⟨b, off, rfl, _, hc⟩ := hxk.reads.2 (by omega)
        obtain ⟨b2, off2, rfl, _, hc2⟩ := hyk.reads.2 (by omega)
        have hcell : wr.cell? ⟨b, off + k, none⟩ = some (.float .f64 (ge xs k)) := hc k (by omega)
        have hcell2 : wr.cell? ⟨b2, off2 + k, none⟩ = some (.float .f64 (ge ys k)) := hc2 k (by omega)
        obtain ⟨y0, hy0⟩ := hall k (by omega)
        have hcell3 : wr.cell? ⟨w.heap.size, k, none⟩ = some (.float .f64 y0) := (d0.cell k).trans hy0
        have hfz : wr.frozen? ⟨w.heap.size, k, none⟩ = false := d0.frozen k
        have ht := HT.out k (by omega)
        have hm : floatBits .mul .f64 q (ge xs k) = some (fmul q (ge xs k)) := ht.1
        have hrun := fun (w : World) => run_float_arith (P := Try.prog) w .mul 22 .f64 _ _ _ hm
        have hm2 : floatBits .add .f64 (ge ys k) (fmul q (ge xs k)) = some (axT q xs ys k) := ht.2.1
        have hrun2 := fun (w : World) => run_float_arith (P := Try.prog) w .add 22 .f64 _ _ _ hm2
        obtain ⟨s1, h1⟩ : ∃ s1, s1 = axT q xs ys k := ⟨_, rfl⟩
        rw [← h1] at hrun2
        have hn := HX.out.old (Nat.le_refl w.heap.size)
        have hn2 := HY.out.old (Nat.le_refl w.heap.size)
        have HN := Lib.hid hn; have HN2 := Lib.hid hn2; have HK := Lib.hid hxk; have HK2 := Lib.hid hyk; have H1' := Lib.hid h1; have HD := Lib.hid d0; have HE := Lib.hid hbel
        have HA := Lib.hid hall; have HDo := Lib.hid hdone
        generalize ge xs k = x at *
        generalize ge ys k = y at *
        generalize fmul q x = p at *
        clear hc hc2 hn hn2 hxk hyk h1 d0 hbel hm hm2 ht hall hdone hy0
        go_wp2
        go_roundw
        case rel =>
          refine ⟨k + 1, _, by omega, by go_num, HD.out.set k _, ?_, ?_, HK.out.setCell HN.out _, HK2.out.setCell HN2.out _, HE.out.setCell (Nat.le_refl _) _⟩
          · intro i hi
            obtain ⟨y, hy⟩ := HA.out i hi
            by_cases h : i = k
            · subst h
              have hs : i < C.size := by rw [Array.getElem?_eq_some_iff] at hy; exact hy.1
              exact ⟨s1, by simp [hs]⟩
            · exact ⟨y, by rw [Array.getElem?_setIfInBounds_ne (fun hh => h hh.symm)]; exact hy⟩
          · intro i hi
            by_cases h : i = k
            · subst h
              obtain ⟨y, hy⟩ := HA.out i (by omega)
              have hs : i < C.size := by rw [Array.getElem?_eq_some_iff] at hy; exact hy.1
              rw [← H1'.out]; simp [hs]
            · rw [Array.getElem?_setIfInBounds_ne (fun hh => h hh.symm)]; exact HDo.out i (by omega)
        case measure => simp [intOf]; omega
      · obtain rfl : k = xs.length := by omega
        have hs := SlArg.made (f := axT q xs ys) d0 (by omega) hdone (fun i hi => (HT.out i hi).2.2.2)
        rw [← HR.out] at hs
        have HS := Lib.hid hs
        have HE := Lib.hid hbel
        clear d0 hxk hyk hbel hs hall hdone
        go_wp2
        go_ret2
        exact ⟨⟨_, _, rfl, HS.out⟩, HE.out⟩

end Go.Proofs.Ytcoaachajdomcaa
