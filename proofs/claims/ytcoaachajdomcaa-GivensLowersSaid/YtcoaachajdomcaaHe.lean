/- Contracts: Hyper, of the code and of the document. -/
import Derived.Test.YtcoaachajdomcaaHd
set_option linter.unusedVariables false
namespace Lev
def hypT (r x : Nat) : Go.Value :=
  if fin r ∧ fin x then (if rg r = 0 ∧ rg x = 0 then .tuple #[.float .f64 4607182418800017408, .float .f64 0, .bool true] else if hypB r x = true then .tuple #[.float .f64 (hypC r x), .float .f64 (hypS r x), .bool true] else .tuple #[.float .f64 0, .float .f64 0, .bool false])
  else .tuple #[.float .f64 0, .float .f64 0, .bool false]
end Lev
namespace Go.Proofs.Ytcoaachajdomcaa
open Go.RowKit Go.Shelf Lev

attribute [local go_sem] order_lt order_gt order_eq order_ne flt_or_feq flt_or_feq' eqFloat run_store_float

theorem Bk.c2' {w : World} {g : Nat} {t : TypeId} {v0 v1 : Value} (h : Bk w g t #[v0, v1]) : w.cell? ⟨g, 0, none⟩ = some v0 ∧ w.cell? ⟨g, 1, none⟩ = some v1 :=
  ⟨h.cell 0, h.cell 1⟩
theorem pair_kept {w w1 : World} {x y : Nat} (hb : Below (w.alloc (.cells #[.float .f64 x, .float .f64 y] 56)).heap.size (w.alloc (.cells #[.float .f64 x, .float .f64 y] 56)) w1) :
    w1.cell? ⟨w.heap.size, 0, none⟩ = some (.float .f64 x) ∧ w1.cell? ⟨w.heap.size, 1, none⟩ = some (.float .f64 y) ∧ Below w.heap.size w w1 ∧ w1.frozen? ⟨w.heap.size, 0, none⟩ = false ∧ w1.frozen? ⟨w.heap.size, 1, none⟩ = false := by
  have b := (Bk.new w 56 #[.float .f64 x, .float .f64 y]).below hb (by simp)
  exact ⟨b.cell 0, b.cell 1, Below.chain ((Below.refl _ _).alloc (Nat.le_refl _) _) hb, b.frozen 0, b.frozen 1⟩

set_option maxRecDepth 100000 in
set_option maxHeartbeats 1000000 in
theorem ghyper_no (r x : Nat) (hr64 : r < 18446744073709551616) (hx64 : x < 18446744073709551616) (hn : (numB r && numB x) = false) (w : World) :
    Calls Try.prog 27 #[.float .f64 r, .float .f64 x] w fun e w' => e = .returned (.tuple #[.float .f64 0, .float .f64 0, .bool false]) ∧ Below w.heap.size w w' := by
  have HM := Lib.hid (gmay_any r x hr64 hx64)
  rw [hn] at HM
  clear hn
  clear hr64 hx64
  go_enter Try.func27, Try.ntmps27
  go_wp2_with fail
  refine (HM.out _).mono ?_
  rintro e w1 ⟨rfl, hb1⟩
  obtain ⟨c1, c2, hb2, z1, z2⟩ := pair_kept hb1
  have HB := Lib.hid hb2
  clear hb1 hb2
  go_wp2
  go_ret3
  exact ⟨rfl, HB.out⟩

set_option maxRecDepth 100000 in
set_option maxHeartbeats 1000000 in
theorem ghyper_zero (r x : Nat) (hr64 : r < 18446744073709551616) (hx64 : x < 18446744073709551616) (hr : rg r = 0) (hx : rg x = 0) (w : World) :
    Calls Try.prog 27 #[.float .f64 r, .float .f64 x] w fun e w' => e = .returned (.tuple #[.float .f64 4607182418800017408, .float .f64 0, .bool true]) ∧ Below w.heap.size w w' := by
  have fr : fin r := by have := INF_eq; unfold fin; omega
  have fx : fin x := by have := INF_eq; unfold fin; omega
  have nr : numB r = true := decide_eq_true fr
  have nx : numB x = true := decide_eq_true fx
  have HM := Lib.hid (gmay_any r x hr64 hx64)
  rw [nr, nx] at HM
  clear nr nx
  have qr : feq r 0 = true := by rw [feq_zero]; exact decide_eq_true hr
  have qx : feq x 0 = true := by rw [feq_zero]; exact decide_eq_true hx
  clear fr fx hr hx
  clear hr64 hx64
  go_enter Try.func27, Try.ntmps27
  go_wp2_with fail
  refine (HM.out _).mono ?_
  rintro e w1 ⟨rfl, hb1⟩
  obtain ⟨c1, c2, hb2, z1, z2⟩ := pair_kept hb1
  have HB := Lib.hid hb2
  clear hb1 hb2
  go_wp2
  go_ret3
  exact ⟨rfl, HB.out⟩

set_option maxRecDepth 100000 in
set_option maxHeartbeats 1000000 in
theorem ghyper_inf (r x : Nat) (hr64 : r < 18446744073709551616) (hx64 : x < 18446744073709551616) (fx : fin x) (hr : rg r = 0) (hx : rg x ≠ 0) (w : World) :
    Calls Try.prog 27 #[.float .f64 r, .float .f64 x] w fun e w' => e = .returned (.tuple #[.float .f64 0, .float .f64 0, .bool false]) ∧ Below w.heap.size w w' := by
  have fr : fin r := by have := INF_eq; unfold fin; omega
  have nr : numB r = true := decide_eq_true fr
  have nx : numB x = true := decide_eq_true fx
  have HM := Lib.hid (gmay_any r x hr64 hx64)
  rw [nr, nx] at HM
  clear nr nx
  have qr : feq r 0 = true := by rw [feq_zero]; exact decide_eq_true hr
  have qx : feq x 0 = false := by rw [feq_zero]; exact decide_eq_false hx
  have hd := div_zero fx hx hr
  have hd' : floatBits .quo .f64 x r = some (D.word (sg x ^^ sg r) INF) := hd
  have hrun := fun (w : World) => run_float_arith (P := Try.prog) w .quo 22 .f64 _ _ _ hd'
  have hs64 : D.word (sg x ^^ sg r) INF < 18446744073709551616 := word_lt64 _ _ (by decide)
  have ht : flt (rg (D.word (sg x ^^ sg r) INF)) 4607182418800017408 = false := by rw [rg_word _ _ (by decide)]; decide
  have HA := Lib.hid (fun W => abs_any _ hs64 W)
  clear hd hd' hs64
  generalize D.word (sg x ^^ sg r) INF = s at *
  clear fr fx hr hx
  clear hr64 hx64
  go_enter Try.func27, Try.ntmps27
  go_wp2_with fail
  refine (HM.out _).mono ?_
  rintro e w1 ⟨rfl, hb1⟩
  obtain ⟨c1, c2, hb2, z1, z2⟩ := pair_kept hb1
  have HB := Lib.hid hb2
  clear hb1 hb2
  go_wp2_with (first | (go_at_call 21; refine (HA.out _).mono ?_; rintro e w' ⟨rfl, rfl⟩))
  go_ret3
  exact ⟨rfl, HB.out⟩

set_option maxRecDepth 100000 in
set_option maxHeartbeats 1000000 in
theorem ghyper_yes (r x : Nat) (hr64 : r < 18446744073709551616) (hx64 : x < 18446744073709551616) (fr : fin r) (fx : fin x) (hr : rg r ≠ 0) (hb : rg (hypS r x) < oneF) (w : World) :
    Calls Try.prog 27 #[.float .f64 r, .float .f64 x] w fun e w' => e = .returned (.tuple #[.float .f64 (hypC r x), .float .f64 (hypS r x), .bool true]) ∧ Below w.heap.size w w' := by
  have nr : numB r = true := decide_eq_true fr
  have nx : numB x = true := decide_eq_true fx
  have HM := Lib.hid (gmay_any r x hr64 hx64)
  rw [nr, nx] at HM
  clear nr nx
  have qr : feq r 0 = false := by rw [feq_zero]; exact decide_eq_false hr
  obtain ⟨hd, hs64, _⟩ := hypS_spec fr fx hr
  have hd' : floatBits .quo .f64 x r = some (hypS r x) := hd
  have hrun := fun (w : World) => run_float_arith (P := Try.prog) w .quo 22 .f64 _ _ _ hd'
  have HA := Lib.hid (fun W => abs_any _ hs64 W)
  have ht : flt (rg (hypS r x)) 4607182418800017408 = true := by rw [← oneF_eq, test_code]; exact decide_eq_true hb
  obtain ⟨f1, f2, f3, f4, _⟩ := hyp_facts hb
  have g1 : floatBits .sub .f64 4607182418800017408 (hypS r x) = some (fsub oneF (hypS r x)) := f1
  have g2 : floatBits .add .f64 4607182418800017408 (hypS r x) = some (fadd oneF (hypS r x)) := f2
  have g3 : floatBits .mul .f64 (fsub oneF (hypS r x)) (fadd oneF (hypS r x)) = some (fmul (fsub oneF (hypS r x)) (fadd oneF (hypS r x))) := f3
  have r1 := fun (w : World) => run_float_arith (P := Try.prog) w .sub 22 .f64 _ _ _ g1
  have r2 := fun (w : World) => run_float_arith (P := Try.prog) w .add 22 .f64 _ _ _ g2
  have r3 := fun (w : World) => run_float_arith (P := Try.prog) w .mul 22 .f64 _ _ _ g3
  have HS := Lib.hid (fun W => sqrt_any _ _ f4 W)
  clear f1 f2 f3 f4 g1 g2 g3
  have HC := Lib.hid (show sqrtF (fmul (fsub oneF (hypS r x)) (fadd oneF (hypS r x))) = hypC r x from rfl)
  clear hd hd' hs64 hb
  generalize fmul (fsub oneF (hypS r x)) (fadd oneF (hypS r x)) = m at *
  generalize fsub oneF (hypS r x) = lo at *
  generalize fadd oneF (hypS r x) = hi at *
  generalize hypS r x = s at *
  clear fr fx hr
  clear hr64 hx64
  go_enter Try.func27, Try.ntmps27
  go_wp2_with fail
  refine (HM.out _).mono ?_
  rintro e w1 ⟨rfl, hb1⟩
  obtain ⟨c1, c2, hb2, z1, z2⟩ := pair_kept hb1
  have HB := Lib.hid hb2
  clear hb1 hb2
  go_wp2_with (first | (go_at_call 21; refine (HA.out _).mono ?_; rintro e w' ⟨rfl, rfl⟩) | (go_at_call 40; refine (HS.out _).mono ?_; rintro e w' ⟨rfl, rfl⟩))
  go_ret3
  exact ⟨by first | (rw [HC.out]; done) | (rw [HC.out]; rfl), HB.out⟩

set_option maxRecDepth 100000 in
set_option maxHeartbeats 1000000 in
theorem ghyper_far (r x : Nat) (hr64 : r < 18446744073709551616) (hx64 : x < 18446744073709551616) (fr : fin r) (fx : fin x) (hr : rg r ≠ 0) (hb : ¬ rg (hypS r x) < oneF) (w : World) :
    Calls Try.prog 27 #[.float .f64 r, .float .f64 x] w fun e w' => e = .returned (.tuple #[.float .f64 0, .float .f64 0, .bool false]) ∧ Below w.heap.size w w' := by
  have nr : numB r = true := decide_eq_true fr
  have nx : numB x = true := decide_eq_true fx
  have HM := Lib.hid (gmay_any r x hr64 hx64)
  rw [nr, nx] at HM
  clear nr nx
  have qr : feq r 0 = false := by rw [feq_zero]; exact decide_eq_false hr
  obtain ⟨hd, hs64, _⟩ := hypS_spec fr fx hr
  have hd' : floatBits .quo .f64 x r = some (hypS r x) := hd
  have hrun := fun (w : World) => run_float_arith (P := Try.prog) w .quo 22 .f64 _ _ _ hd'
  have HA := Lib.hid (fun W => abs_any _ hs64 W)
  have ht : flt (rg (hypS r x)) 4607182418800017408 = false := by rw [← oneF_eq, test_code]; exact decide_eq_false hb
  clear hd hd' hs64 hb
  generalize hypS r x = s at *
  clear fr fx hr
  clear hr64 hx64
  go_enter Try.func27, Try.ntmps27
  go_wp2_with fail
  refine (HM.out _).mono ?_
  rintro e w1 ⟨rfl, hb1⟩
  obtain ⟨c1, c2, hb2, z1, z2⟩ := pair_kept hb1
  have HB := Lib.hid hb2
  clear hb1 hb2
  go_wp2_with (first | (go_at_call 21; refine (HA.out _).mono ?_; rintro e w' ⟨rfl, rfl⟩))
  go_ret3
  exact ⟨rfl, HB.out⟩

set_option maxRecDepth 100000 in
set_option maxHeartbeats 1000000 in
theorem rhyper_no1 (r x : Nat) (hr64 : r < 18446744073709551616) (hx64 : x < 18446744073709551616) (hn : numB r = false) (w : World) :
    Calls Try.prog 28 #[.float .f64 r, .float .f64 x] w fun e w' => e = .returned (.tuple #[.float .f64 0, .float .f64 0, .bool false]) ∧ w = w' := by
  have HR := Lib.hid (fun W => rnumber_any r hr64 W)
  rw [hn] at HR
  clear hn
  clear hr64 hx64
  go_enter Try.func28, Try.ntmps28
  go_wp2_with fail
  refine (HR.out _).mono ?_
  rintro e w' ⟨rfl, rfl⟩
  go_wp2
  go_ret3
  exact ⟨rfl, rfl⟩

set_option maxRecDepth 100000 in
set_option maxHeartbeats 1000000 in
theorem rhyper_no2 (r x : Nat) (hr64 : r < 18446744073709551616) (hx64 : x < 18446744073709551616) (hn : numB r = true) (hn2 : numB x = false) (w : World) :
    Calls Try.prog 28 #[.float .f64 r, .float .f64 x] w fun e w' => e = .returned (.tuple #[.float .f64 0, .float .f64 0, .bool false]) ∧ w = w' := by
  have HR := Lib.hid (fun W => rnumber_any r hr64 W)
  rw [hn] at HR
  clear hn
  have HX := Lib.hid (fun W => rnumber_any x hx64 W)
  rw [hn2] at HX
  clear hn2
  clear hr64 hx64
  go_enter Try.func28, Try.ntmps28
  go_wp2_with fail
  refine (HR.out _).mono ?_
  rintro e w' ⟨rfl, rfl⟩
  go_wp2_with fail
  refine (HX.out _).mono ?_
  rintro e w' ⟨rfl, rfl⟩
  go_wp2
  go_ret3
  exact ⟨rfl, rfl⟩

set_option maxRecDepth 100000 in
set_option maxHeartbeats 1000000 in
theorem rhyper_zero (r x : Nat) (hr64 : r < 18446744073709551616) (hx64 : x < 18446744073709551616) (hr : rg r = 0) (hx : rg x = 0) (w : World) :
    Calls Try.prog 28 #[.float .f64 r, .float .f64 x] w fun e w' => e = .returned (.tuple #[.float .f64 4607182418800017408, .float .f64 0, .bool true]) ∧ w = w' := by
  have fr : fin r := by have := INF_eq; unfold fin; omega
  have fx : fin x := by have := INF_eq; unfold fin; omega
  have nr : numB r = true := decide_eq_true fr
  have nx : numB x = true := decide_eq_true fx
  have HR := Lib.hid (fun W => rnumber_any r hr64 W)
  have HX := Lib.hid (fun W => rnumber_any x hx64 W)
  rw [nr] at HR
  rw [nx] at HX
  clear nr nx
  have qr : feq r 0 = true := by rw [feq_zero]; exact decide_eq_true hr
  have qx : feq x 0 = true := by rw [feq_zero]; exact decide_eq_true hx
  clear fr fx hr hx
  clear hr64 hx64
  go_enter Try.func28, Try.ntmps28
  go_wp2_with fail
  refine (HR.out _).mono ?_
  rintro e w' ⟨rfl, rfl⟩
  go_wp2_with fail
  refine (HX.out _).mono ?_
  rintro e w' ⟨rfl, rfl⟩
  go_wp2
  go_ret3
  exact ⟨rfl, rfl⟩

set_option maxRecDepth 100000 in
set_option maxHeartbeats 1000000 in
theorem rhyper_inf (r x : Nat) (hr64 : r < 18446744073709551616) (hx64 : x < 18446744073709551616) (fx : fin x) (hr : rg r = 0) (hx : rg x ≠ 0) (w : World) :
    Calls Try.prog 28 #[.float .f64 r, .float .f64 x] w fun e w' => e = .returned (.tuple #[.float .f64 0, .float .f64 0, .bool false]) ∧ w = w' := by
  have fr : fin r := by have := INF_eq; unfold fin; omega
  have nr : numB r = true := decide_eq_true fr
  have nx : numB x = true := decide_eq_true fx
  have HR := Lib.hid (fun W => rnumber_any r hr64 W)
  have HX := Lib.hid (fun W => rnumber_any x hx64 W)
  rw [nr] at HR
  rw [nx] at HX
  clear nr nx
  have qr : feq r 0 = true := by rw [feq_zero]; exact decide_eq_true hr
  have qx : feq x 0 = false := by rw [feq_zero]; exact decide_eq_false hx
  clear fr fx hr hx
  clear hr64 hx64
  go_enter Try.func28, Try.ntmps28
  go_wp2_with fail
  refine (HR.out _).mono ?_
  rintro e w' ⟨rfl, rfl⟩
  go_wp2_with fail
  refine (HX.out _).mono ?_
  rintro e w' ⟨rfl, rfl⟩
  go_wp2
  go_ret3
  exact ⟨rfl, rfl⟩

set_option maxRecDepth 100000 in
set_option maxHeartbeats 1000000 in
theorem rhyper_yes (r x : Nat) (hr64 : r < 18446744073709551616) (hx64 : x < 18446744073709551616) (fr : fin r) (fx : fin x) (hr : rg r ≠ 0) (hb : rg (hypS r x) < oneF) (w : World) :
    Calls Try.prog 28 #[.float .f64 r, .float .f64 x] w fun e w' => e = .returned (.tuple #[.float .f64 (hypC r x), .float .f64 (hypS r x), .bool true]) ∧ w = w' := by
  have nr : numB r = true := decide_eq_true fr
  have nx : numB x = true := decide_eq_true fx
  have HR := Lib.hid (fun W => rnumber_any r hr64 W)
  have HX := Lib.hid (fun W => rnumber_any x hx64 W)
  rw [nr] at HR
  rw [nx] at HX
  clear nr nx
  have qr : feq r 0 = false := by rw [feq_zero]; exact decide_eq_false hr
  obtain ⟨hd, hs64, _⟩ := hypS_spec fr fx hr
  have hd' : floatBits .quo .f64 x r = some (hypS r x) := hd
  have hrun := fun (w : World) => run_float_arith (P := Try.prog) w .quo 22 .f64 _ _ _ hd'
  have HA := Lib.hid (fun W => abs_any _ hs64 W)
  have ht : (flt 13830554455654793216 (hypS r x) && flt (hypS r x) 4607182418800017408) = true := by rw [← oneF_eq, test_doc]; exact decide_eq_true hb
  rw [Bool.and_eq_true] at ht
  obtain ⟨ht1, ht2⟩ := ht
  obtain ⟨f1, f2, f3, f4, _⟩ := hyp_facts hb
  have g1 : floatBits .sub .f64 4607182418800017408 (hypS r x) = some (fsub oneF (hypS r x)) := f1
  have g2 : floatBits .add .f64 4607182418800017408 (hypS r x) = some (fadd oneF (hypS r x)) := f2
  have g3 : floatBits .mul .f64 (fsub oneF (hypS r x)) (fadd oneF (hypS r x)) = some (fmul (fsub oneF (hypS r x)) (fadd oneF (hypS r x))) := f3
  have r1 := fun (w : World) => run_float_arith (P := Try.prog) w .sub 22 .f64 _ _ _ g1
  have r2 := fun (w : World) => run_float_arith (P := Try.prog) w .add 22 .f64 _ _ _ g2
  have r3 := fun (w : World) => run_float_arith (P := Try.prog) w .mul 22 .f64 _ _ _ g3
  have HS := Lib.hid (fun W => sqrt_any _ _ f4 W)
  clear f1 f2 f3 f4 g1 g2 g3
  have HC := Lib.hid (show sqrtF (fmul (fsub oneF (hypS r x)) (fadd oneF (hypS r x))) = hypC r x from rfl)
  clear hd hd' hs64 hb
  generalize fmul (fsub oneF (hypS r x)) (fadd oneF (hypS r x)) = m at *
  generalize fsub oneF (hypS r x) = lo at *
  generalize fadd oneF (hypS r x) = hi at *
  generalize hypS r x = s at *
  clear fr fx hr
  clear hr64 hx64
  go_enter Try.func28, Try.ntmps28
  go_wp2_with fail
  refine (HR.out _).mono ?_
  rintro e w' ⟨rfl, rfl⟩
  go_wp2_with fail
  refine (HX.out _).mono ?_
  rintro e w' ⟨rfl, rfl⟩
  go_wp2_with (go_at_call 40; refine (HS.out _).mono ?_; rintro e w' ⟨rfl, rfl⟩)
  go_ret3
  exact ⟨by first | (rw [HC.out]; done) | (rw [HC.out]; rfl), rfl⟩

set_option maxRecDepth 100000 in
set_option maxHeartbeats 1000000 in
theorem rhyper_far1 (r x : Nat) (hr64 : r < 18446744073709551616) (hx64 : x < 18446744073709551616) (fr : fin r) (fx : fin x) (hr : rg r ≠ 0) (h1 : flt 13830554455654793216 (hypS r x) = false) (w : World) :
    Calls Try.prog 28 #[.float .f64 r, .float .f64 x] w fun e w' => e = .returned (.tuple #[.float .f64 0, .float .f64 0, .bool false]) ∧ w = w' := by
  have nr : numB r = true := decide_eq_true fr
  have nx : numB x = true := decide_eq_true fx
  have HR := Lib.hid (fun W => rnumber_any r hr64 W)
  have HX := Lib.hid (fun W => rnumber_any x hx64 W)
  rw [nr] at HR
  rw [nx] at HX
  clear nr nx
  have qr : feq r 0 = false := by rw [feq_zero]; exact decide_eq_false hr
  obtain ⟨hd, hs64, _⟩ := hypS_spec fr fx hr
  have hd' : floatBits .quo .f64 x r = some (hypS r x) := hd
  have hrun := fun (w : World) => run_float_arith (P := Try.prog) w .quo 22 .f64 _ _ _ hd'
  have HA := Lib.hid (fun W => abs_any _ hs64 W)
  clear hd hd' hs64
  generalize hypS r x = s at *
  clear fr fx hr
  clear hr64 hx64
  go_enter Try.func28, Try.ntmps28
  go_wp2_with fail
  refine (HR.out _).mono ?_
  rintro e w' ⟨rfl, rfl⟩
  go_wp2_with fail
  refine (HX.out _).mono ?_
  rintro e w' ⟨rfl, rfl⟩
  go_wp2
  go_ret3
  exact ⟨rfl, rfl⟩

set_option maxRecDepth 100000 in
set_option maxHeartbeats 1000000 in
theorem rhyper_far2 (r x : Nat) (hr64 : r < 18446744073709551616) (hx64 : x < 18446744073709551616) (fr : fin r) (fx : fin x) (hr : rg r ≠ 0) (h1 : flt 13830554455654793216 (hypS r x) = true) (h2 : flt (hypS r x) 4607182418800017408 = false) (w : World) :
    Calls Try.prog 28 #[.float .f64 r, .float .f64 x] w fun e w' => e = .returned (.tuple #[.float .f64 0, .float .f64 0, .bool false]) ∧ w = w' := by
  have nr : numB r = true := decide_eq_true fr
  have nx : numB x = true := decide_eq_true fx
  have HR := Lib.hid (fun W => rnumber_any r hr64 W)
  have HX := Lib.hid (fun W => rnumber_any x hx64 W)
  rw [nr] at HR
  rw [nx] at HX
  clear nr nx
  have qr : feq r 0 = false := by rw [feq_zero]; exact decide_eq_false hr
  obtain ⟨hd, hs64, _⟩ := hypS_spec fr fx hr
  have hd' : floatBits .quo .f64 x r = some (hypS r x) := hd
  have hrun := fun (w : World) => run_float_arith (P := Try.prog) w .quo 22 .f64 _ _ _ hd'
  have HA := Lib.hid (fun W => abs_any _ hs64 W)
  clear hd hd' hs64
  generalize hypS r x = s at *
  clear fr fx hr
  clear hr64 hx64
  go_enter Try.func28, Try.ntmps28
  go_wp2_with fail
  refine (HR.out _).mono ?_
  rintro e w' ⟨rfl, rfl⟩
  go_wp2_with fail
  refine (HX.out _).mono ?_
  rintro e w' ⟨rfl, rfl⟩
  go_wp2
  go_ret3
  exact ⟨rfl, rfl⟩

theorem calls_eq {P : Program} {f : FuncId} {a : Array Value} {w : World} {v v' : Value} {R : World → Prop} (h : Calls P f a w fun e w' => e = .returned v ∧ R w') (hv : v = v') : Calls P f a w fun e w' => e = .returned v' ∧ R w' := by rw [← hv]; exact h
theorem hypT_no {r x : Nat} (h : (numB r && numB x) = false) : Value.tuple #[.float .f64 0, .float .f64 0, .bool false] = hypT r x := by
  unfold hypT; rw [if_neg]
  rintro ⟨h1, h2⟩
  rw [show numB r = true from decide_eq_true h1, show numB x = true from decide_eq_true h2] at h
  cases h
theorem hypT_zero {r x : Nat} (hr : rg r = 0) (hx : rg x = 0) : Value.tuple #[.float .f64 4607182418800017408, .float .f64 0, .bool true] = hypT r x := by
  have hI := INF_eq
  unfold hypT; rw [if_pos ⟨by unfold fin; omega, by unfold fin; omega⟩, if_pos ⟨hr, hx⟩]
theorem hypT_inf {r x : Nat} (fx : fin x) (hr : rg r = 0) (hx : rg x ≠ 0) : Value.tuple #[.float .f64 0, .float .f64 0, .bool false] = hypT r x := by
  have hI := INF_eq
  unfold hypT hypB; rw [if_pos ⟨by unfold fin; omega, fx⟩, if_neg (fun h => hx h.2), if_neg]
  rw [decide_eq_true_eq]; exact fun h => h.1 hr
theorem hypT_yes {r x : Nat} (fr : fin r) (fx : fin x) (hr : rg r ≠ 0) (hb : rg (hypS r x) < oneF) : Value.tuple #[.float .f64 (hypC r x), .float .f64 (hypS r x), .bool true] = hypT r x := by
  unfold hypT hypB; rw [if_pos ⟨fr, fx⟩, if_neg (fun h => hr h.1), if_pos (decide_eq_true ⟨hr, hb⟩)]
theorem hypT_far {r x : Nat} (fr : fin r) (fx : fin x) (hr : rg r ≠ 0) (hb : ¬ rg (hypS r x) < oneF) : Value.tuple #[.float .f64 0, .float .f64 0, .bool false] = hypT r x := by
  unfold hypT hypB; rw [if_pos ⟨fr, fx⟩, if_neg (fun h => hr h.1), if_neg]
  rw [decide_eq_true_eq]; exact fun h => hb h.2

theorem ghyper_any (r x : Nat) (hr64 : r < 18446744073709551616) (hx64 : x < 18446744073709551616) (w : World) :
    Calls Try.prog 27 #[.float .f64 r, .float .f64 x] w fun e w' => e = .returned (hypT r x) ∧ Below w.heap.size w w' := by
  by_cases fr : fin r
  · by_cases fx : fin x
    · by_cases hr : rg r = 0
      · by_cases hx : rg x = 0
        · exact calls_eq (ghyper_zero r x hr64 hx64 hr hx w) (hypT_zero hr hx)
        · exact calls_eq (ghyper_inf r x hr64 hx64 fx hr hx w) (hypT_inf fx hr hx)
      · by_cases hb : rg (hypS r x) < oneF
        · exact calls_eq (ghyper_yes r x hr64 hx64 fr fx hr hb w) (hypT_yes fr fx hr hb)
        · exact calls_eq (ghyper_far r x hr64 hx64 fr fx hr hb w) (hypT_far fr fx hr hb)
    · have hn : (numB r && numB x) = false := by rw [show numB x = false from decide_eq_false fx, Bool.and_false]
      exact calls_eq (ghyper_no r x hr64 hx64 hn w) (hypT_no hn)
  · have hn : (numB r && numB x) = false := by rw [show numB r = false from decide_eq_false fr, Bool.false_and]
    exact calls_eq (ghyper_no r x hr64 hx64 hn w) (hypT_no hn)
theorem rhyper_any (r x : Nat) (hr64 : r < 18446744073709551616) (hx64 : x < 18446744073709551616) (w : World) :
    Calls Try.prog 28 #[.float .f64 r, .float .f64 x] w fun e w' => e = .returned (hypT r x) ∧ w = w' := by
  by_cases fr : fin r
  · by_cases fx : fin x
    · by_cases hr : rg r = 0
      · by_cases hx : rg x = 0
        · exact calls_eq (rhyper_zero r x hr64 hx64 hr hx w) (hypT_zero hr hx)
        · exact calls_eq (rhyper_inf r x hr64 hx64 fx hr hx w) (hypT_inf fx hr hx)
      · by_cases hb : rg (hypS r x) < oneF
        · exact calls_eq (rhyper_yes r x hr64 hx64 fr fx hr hb w) (hypT_yes fr fx hr hb)
        · have ht : (flt 13830554455654793216 (hypS r x) && flt (hypS r x) 4607182418800017408) = false := by rw [← oneF_eq, test_doc]; exact decide_eq_false hb
          cases h1 : flt 13830554455654793216 (hypS r x)
          · exact calls_eq (rhyper_far1 r x hr64 hx64 fr fx hr h1 w) (hypT_far fr fx hr hb)
          · rw [h1, Bool.true_and] at ht
            exact calls_eq (rhyper_far2 r x hr64 hx64 fr fx hr h1 ht w) (hypT_far fr fx hr hb)
    · have hn : (numB r && numB x) = false := by rw [show numB x = false from decide_eq_false fx, Bool.and_false]
      exact calls_eq (rhyper_no2 r x hr64 hx64 (decide_eq_true fr) (decide_eq_false fx) w) (hypT_no hn)
  · have hn : (numB r && numB x) = false := by rw [show numB r = false from decide_eq_false fr, Bool.false_and]
    exact calls_eq (rhyper_no1 r x hr64 hx64 (decide_eq_false fr) w) (hypT_no hn)

end Go.Proofs.Ytcoaachajdomcaa
