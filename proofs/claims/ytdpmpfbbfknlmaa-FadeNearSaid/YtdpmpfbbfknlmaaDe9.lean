/- Contracts of package fade: Often where it tells an error; Factor. -/
import Derived.Test.YtdpmpfbbfknlmaaDb9
namespace Go.Proofs.Ytdpmpfbbfknlmaa
open Go.RowKit Go.Shelf Lev

set_option maxRecDepth 100000 in
set_option maxHeartbeats 1000000 in
theorem often_bad (C : Int) (A : Option Addr) (xs : List Nat) (c : Nat) (R T : Int) (b : Nat) (k : Int) (w : World) (hx : SlArg w A xs c) (hc : checkS C xs R T = false) :
    Calls Try.prog 10 #[facV C A xs.length c R T, .float .f64 b, .int .i64 k] w fun e w' => e = .returned (.tuple #[zeroFac, .int .i64 1]) ∧ Below w.heap.size w w' := by
  have hck := fun W hW => check_any C A xs c R T W hW
  rw [hc] at hck
  have HCK := Lib.hid hck; clear hck
  have HX := Lib.hid hx
  clear hx
  clear hc
  unfold facV
  go_enter Try.func10, Try.ntmps10
  go_wp2_with fail
  obtain ⟨W, hW⟩ : ∃ W, W = ((w.alloc (.cells #[.int .i64 C, .slice A xs.length c, .int .i64 R, .int .i64 T] 24)).alloc (.cells #[.float .f64 b] 25)).alloc (.cells #[.int .i64 0, .slice none 0 0, .int .i64 0, .int .i64 0] 24) := ⟨_, rfl⟩
  rw [← hW]
  have b0 : Bk W w.heap.size 24 #[.int .i64 C, .slice A xs.length c, .int .i64 R, .int .i64 T] := by rw [hW]; exact ((Bk.new _ _ _).alloc _).alloc _
  have b1 : Bk W (w.heap.size + 1) 25 #[.float .f64 b] := by rw [hW]; have := (Bk.new (w.alloc (.cells #[.int .i64 C, .slice A xs.length c, .int .i64 R, .int .i64 T] 24)) 25 #[.float .f64 b]).alloc (.cells #[.int .i64 0, .slice none 0 0, .int .i64 0, .int .i64 0] 24); rwa [World.size_alloc] at this
  have b2 : Bk W (w.heap.size + 1 + 1) 24 #[.int .i64 0, .slice none 0 0, .int .i64 0, .int .i64 0] := by rw [hW]; have := Bk.new ((w.alloc (.cells #[.int .i64 C, .slice A xs.length c, .int .i64 R, .int .i64 T] 24)).alloc (.cells #[.float .f64 b] 25)) 24 #[.int .i64 0, .slice none 0 0, .int .i64 0, .int .i64 0]; rwa [World.size_alloc, World.size_alloc] at this
  have hbW : Below w.heap.size w W := by rw [hW]; exact (((Below.refl _ _).alloc (Nat.le_refl _) _).alloc (by simp) _).alloc (by simp; omega) _
  have hszW : W.heap.size = w.heap.size + 3 := by rw [hW]; simp
  have hxW : SlArg W A xs c := HX.out.below hbW
  clear hW
  refine (HCK.out W hxW).mono ?_
  rintro e w1 ⟨rfl, hb1⟩
  have c0 := b0.below hb1 (by omega)
  have c1 := b1.below hb1 (by omega)
  have c2 := b2.below hb1 (by omega)
  have hbw1 : Below w.heap.size w w1 := hbW.trans (hb1.mono (by omega))
  have k1 := c1.cell 0
  have k3 := c0.cell 3
  have KB := Lib.hid hbw1
  have C2 := Lib.hid c2
  have r0 := c2.cell 0; have r1 := c2.cell 1; have r2 := c2.cell 2; have r3 := c2.cell 3
  have g0 := c2.frozen 0; have g1 := c2.frozen 1; have g2 := c2.frozen 2; have g3 := c2.frozen 3
  clear hxW hb1 hbW hbw1 b0 b1 b2 c0 c1 c2 hszW
  simp at k1 k3 r0 r1 r2 r3
  go_wp2
  obtain ⟨wf, hwf⟩ : ∃ wf, wf = (((w1.setCell ⟨w.heap.size + 1 + 1, 0, none⟩ (.int .i64 0)).setCell ⟨w.heap.size + 1 + 1, 1, none⟩ (.slice none 0 0)).setCell ⟨w.heap.size + 1 + 1, 2, none⟩ (.int .i64 0)).setCell ⟨w.heap.size + 1 + 1, 3, none⟩ (.int .i64 0) := ⟨_, rfl⟩
  have x5 := (((C2.out.set 0 (.int .i64 0)).set 1 (.slice none 0 0)).set 2 (.int .i64 0)).set 3 (.int .i64 0)
  have hbf := (((KB.out.setCell (p := ⟨w.heap.size + 1 + 1, 0, none⟩) (by simp; omega) (.int .i64 0)).setCell (p := ⟨w.heap.size + 1 + 1, 1, none⟩) (by simp; omega) (.slice none 0 0)).setCell (p := ⟨w.heap.size + 1 + 1, 2, none⟩) (by simp; omega) (.int .i64 0)).setCell (p := ⟨w.heap.size + 1 + 1, 3, none⟩) (by simp; omega) (.int .i64 0)
  rw [← hwf] at x5 hbf ⊢
  have s0 := x5.cell 0; have s1 := x5.cell 1; have s2 := x5.cell 2; have s3 := x5.cell 3
  simp at s0 s1 s2 s3
  refine bodyPost_ret (v := .tuple #[zeroFac, .int .i64 1]) (by simp [results, Try.results10, go_sem, zeroFac, s0, s1, s2, s3]) rfl ?_
  exact ⟨rfl, hbf⟩

set_option maxRecDepth 100000 in
set_option maxHeartbeats 1000000 in
theorem often_neg (C : Int) (A : Option Addr) (xs : List Nat) (c : Nat) (R T : Int) (b : Nat) (k : Int) (w : World) (hx : SlArg w A xs c) (hc : checkS C xs R T = true) (hk : k < 0) :
    Calls Try.prog 10 #[facV C A xs.length c R T, .float .f64 b, .int .i64 k] w fun e w' => e = .returned (.tuple #[zeroFac, .int .i64 1]) ∧ Below w.heap.size w w' := by
  have hck := fun W hW => check_any C A xs c R T W hW
  rw [hc] at hck
  have HCK := Lib.hid hck; clear hck
  have HX := Lib.hid hx
  clear hx
  clear hc
  unfold facV
  go_enter Try.func10, Try.ntmps10
  go_wp2_with fail
  obtain ⟨W, hW⟩ : ∃ W, W = ((w.alloc (.cells #[.int .i64 C, .slice A xs.length c, .int .i64 R, .int .i64 T] 24)).alloc (.cells #[.float .f64 b] 25)).alloc (.cells #[.int .i64 0, .slice none 0 0, .int .i64 0, .int .i64 0] 24) := ⟨_, rfl⟩
  rw [← hW]
  have b0 : Bk W w.heap.size 24 #[.int .i64 C, .slice A xs.length c, .int .i64 R, .int .i64 T] := by rw [hW]; exact ((Bk.new _ _ _).alloc _).alloc _
  have b1 : Bk W (w.heap.size + 1) 25 #[.float .f64 b] := by rw [hW]; have := (Bk.new (w.alloc (.cells #[.int .i64 C, .slice A xs.length c, .int .i64 R, .int .i64 T] 24)) 25 #[.float .f64 b]).alloc (.cells #[.int .i64 0, .slice none 0 0, .int .i64 0, .int .i64 0] 24); rwa [World.size_alloc] at this
  have b2 : Bk W (w.heap.size + 1 + 1) 24 #[.int .i64 0, .slice none 0 0, .int .i64 0, .int .i64 0] := by rw [hW]; have := Bk.new ((w.alloc (.cells #[.int .i64 C, .slice A xs.length c, .int .i64 R, .int .i64 T] 24)).alloc (.cells #[.float .f64 b] 25)) 24 #[.int .i64 0, .slice none 0 0, .int .i64 0, .int .i64 0]; rwa [World.size_alloc, World.size_alloc] at this
  have hbW : Below w.heap.size w W := by rw [hW]; exact (((Below.refl _ _).alloc (Nat.le_refl _) _).alloc (by simp) _).alloc (by simp; omega) _
  have hszW : W.heap.size = w.heap.size + 3 := by rw [hW]; simp
  have hxW : SlArg W A xs c := HX.out.below hbW
  clear hW
  refine (HCK.out W hxW).mono ?_
  rintro e w1 ⟨rfl, hb1⟩
  have c0 := b0.below hb1 (by omega)
  have c1 := b1.below hb1 (by omega)
  have c2 := b2.below hb1 (by omega)
  have hbw1 : Below w.heap.size w w1 := hbW.trans (hb1.mono (by omega))
  have k1 := c1.cell 0
  have k3 := c0.cell 3
  have KB := Lib.hid hbw1
  have C2 := Lib.hid c2
  have r0 := c2.cell 0; have r1 := c2.cell 1; have r2 := c2.cell 2; have r3 := c2.cell 3
  have g0 := c2.frozen 0; have g1 := c2.frozen 1; have g2 := c2.frozen 2; have g3 := c2.frozen 3
  clear hxW hb1 hbW hbw1 b0 b1 b2 c0 c1 c2 hszW
  simp at k1 k3 r0 r1 r2 r3
  go_wp2
  obtain ⟨wf, hwf⟩ : ∃ wf, wf = (((w1.setCell ⟨w.heap.size + 1 + 1, 0, none⟩ (.int .i64 0)).setCell ⟨w.heap.size + 1 + 1, 1, none⟩ (.slice none 0 0)).setCell ⟨w.heap.size + 1 + 1, 2, none⟩ (.int .i64 0)).setCell ⟨w.heap.size + 1 + 1, 3, none⟩ (.int .i64 0) := ⟨_, rfl⟩
  have x5 := (((C2.out.set 0 (.int .i64 0)).set 1 (.slice none 0 0)).set 2 (.int .i64 0)).set 3 (.int .i64 0)
  have hbf := (((KB.out.setCell (p := ⟨w.heap.size + 1 + 1, 0, none⟩) (by simp; omega) (.int .i64 0)).setCell (p := ⟨w.heap.size + 1 + 1, 1, none⟩) (by simp; omega) (.slice none 0 0)).setCell (p := ⟨w.heap.size + 1 + 1, 2, none⟩) (by simp; omega) (.int .i64 0)).setCell (p := ⟨w.heap.size + 1 + 1, 3, none⟩) (by simp; omega) (.int .i64 0)
  rw [← hwf] at x5 hbf ⊢
  have s0 := x5.cell 0; have s1 := x5.cell 1; have s2 := x5.cell 2; have s3 := x5.cell 3
  simp at s0 s1 s2 s3
  refine bodyPost_ret (v := .tuple #[zeroFac, .int .i64 1]) (by simp [results, Try.results10, go_sem, zeroFac, s0, s1, s2, s3]) rfl ?_
  exact ⟨rfl, hbf⟩

set_option maxRecDepth 100000 in
set_option maxHeartbeats 1000000 in
theorem often_may (C : Int) (A : Option Addr) (xs : List Nat) (c : Nat) (R T : Int) (b : Nat) (k : Int) (w : World) (hx : SlArg w A xs c) (hc : checkS C xs R T = true) (hk : 0 ≤ k) (hm : mayS b = false) :
    Calls Try.prog 10 #[facV C A xs.length c R T, .float .f64 b, .int .i64 k] w fun e w' => e = .returned (.tuple #[zeroFac, .int .i64 12]) ∧ Below w.heap.size w w' := by
  have hck := fun W hW => check_any C A xs c R T W hW
  rw [hc] at hck
  have HCK := Lib.hid hck; clear hck
  have HX := Lib.hid hx
  clear hx
  have hm1 := may_any b; rw [hm] at hm1; have HM1 := Lib.hid hm1
  have hk0 : decide (k < 0) = false := decide_eq_false (by omega)
  clear hc hm hm1
  unfold facV
  go_enter Try.func10, Try.ntmps10
  go_wp2_with fail
  obtain ⟨W, hW⟩ : ∃ W, W = ((w.alloc (.cells #[.int .i64 C, .slice A xs.length c, .int .i64 R, .int .i64 T] 24)).alloc (.cells #[.float .f64 b] 25)).alloc (.cells #[.int .i64 0, .slice none 0 0, .int .i64 0, .int .i64 0] 24) := ⟨_, rfl⟩
  rw [← hW]
  have b0 : Bk W w.heap.size 24 #[.int .i64 C, .slice A xs.length c, .int .i64 R, .int .i64 T] := by rw [hW]; exact ((Bk.new _ _ _).alloc _).alloc _
  have b1 : Bk W (w.heap.size + 1) 25 #[.float .f64 b] := by rw [hW]; have := (Bk.new (w.alloc (.cells #[.int .i64 C, .slice A xs.length c, .int .i64 R, .int .i64 T] 24)) 25 #[.float .f64 b]).alloc (.cells #[.int .i64 0, .slice none 0 0, .int .i64 0, .int .i64 0] 24); rwa [World.size_alloc] at this
  have b2 : Bk W (w.heap.size + 1 + 1) 24 #[.int .i64 0, .slice none 0 0, .int .i64 0, .int .i64 0] := by rw [hW]; have := Bk.new ((w.alloc (.cells #[.int .i64 C, .slice A xs.length c, .int .i64 R, .int .i64 T] 24)).alloc (.cells #[.float .f64 b] 25)) 24 #[.int .i64 0, .slice none 0 0, .int .i64 0, .int .i64 0]; rwa [World.size_alloc, World.size_alloc] at this
  have hbW : Below w.heap.size w W := by rw [hW]; exact (((Below.refl _ _).alloc (Nat.le_refl _) _).alloc (by simp) _).alloc (by simp; omega) _
  have hszW : W.heap.size = w.heap.size + 3 := by rw [hW]; simp
  have hxW : SlArg W A xs c := HX.out.below hbW
  clear hW
  refine (HCK.out W hxW).mono ?_
  rintro e w1 ⟨rfl, hb1⟩
  have c0 := b0.below hb1 (by omega)
  have c1 := b1.below hb1 (by omega)
  have c2 := b2.below hb1 (by omega)
  have hbw1 : Below w.heap.size w w1 := hbW.trans (hb1.mono (by omega))
  have k1 := c1.cell 0
  have k3 := c0.cell 3
  have KB := Lib.hid hbw1
  have C2 := Lib.hid c2
  have r0 := c2.cell 0; have r1 := c2.cell 1; have r2 := c2.cell 2; have r3 := c2.cell 3
  have g0 := c2.frozen 0; have g1 := c2.frozen 1; have g2 := c2.frozen 2; have g3 := c2.frozen 3
  clear hxW hb1 hbW hbw1 b0 b1 b2 c0 c1 c2 hszW
  simp at k1 k3 r0 r1 r2 r3
  go_wp2_with (go_at_call 12; refine (HM1.out _).mono ?_; rintro e w' ⟨rfl, rfl⟩)
  obtain ⟨wf, hwf⟩ : ∃ wf, wf = (((w1.setCell ⟨w.heap.size + 1 + 1, 0, none⟩ (.int .i64 0)).setCell ⟨w.heap.size + 1 + 1, 1, none⟩ (.slice none 0 0)).setCell ⟨w.heap.size + 1 + 1, 2, none⟩ (.int .i64 0)).setCell ⟨w.heap.size + 1 + 1, 3, none⟩ (.int .i64 0) := ⟨_, rfl⟩
  have x5 := (((C2.out.set 0 (.int .i64 0)).set 1 (.slice none 0 0)).set 2 (.int .i64 0)).set 3 (.int .i64 0)
  have hbf := (((KB.out.setCell (p := ⟨w.heap.size + 1 + 1, 0, none⟩) (by simp; omega) (.int .i64 0)).setCell (p := ⟨w.heap.size + 1 + 1, 1, none⟩) (by simp; omega) (.slice none 0 0)).setCell (p := ⟨w.heap.size + 1 + 1, 2, none⟩) (by simp; omega) (.int .i64 0)).setCell (p := ⟨w.heap.size + 1 + 1, 3, none⟩) (by simp; omega) (.int .i64 0)
  rw [← hwf] at x5 hbf ⊢
  have s0 := x5.cell 0; have s1 := x5.cell 1; have s2 := x5.cell 2; have s3 := x5.cell 3
  simp at s0 s1 s2 s3
  refine bodyPost_ret (v := .tuple #[zeroFac, .int .i64 12]) (by simp [results, Try.results10, go_sem, zeroFac, s0, s1, s2, s3]) rfl ?_
  exact ⟨rfl, hbf⟩

set_option maxRecDepth 100000 in
set_option maxHeartbeats 1000000 in
theorem often_full (C : Int) (A : Option Addr) (xs : List Nat) (c : Nat) (R T : Int) (b : Nat) (k : Int) (w : World) (hx : SlArg w A xs c) (hc : checkS C xs R T = true) (hk : 0 ≤ k) (hm : mayS b = true) (hf : 4096 - T < k) :
    Calls Try.prog 10 #[facV C A xs.length c R T, .float .f64 b, .int .i64 k] w fun e w' => e = .returned (.tuple #[zeroFac, .int .i64 6]) ∧ Below w.heap.size w w' := by
  have hck := fun W hW => check_any C A xs c R T W hW
  rw [hc] at hck
  have HCK := Lib.hid hck; clear hck
  have HX := Lib.hid hx
  clear hx
  have hm1 := may_any b; rw [hm] at hm1; have HM1 := Lib.hid hm1
  have hk0 : decide (k < 0) = false := decide_eq_false (by omega)
  have hl := check_len hc
  have hT1 : 0 ≤ T := hl.2.2.2.2.2.1
  have hT2 : T ≤ 4096 := hl.2.2.2.2.2.2.1
  clear hc hm hm1 hl
  unfold facV
  go_enter Try.func10, Try.ntmps10
  go_wp2_with fail
  obtain ⟨W, hW⟩ : ∃ W, W = ((w.alloc (.cells #[.int .i64 C, .slice A xs.length c, .int .i64 R, .int .i64 T] 24)).alloc (.cells #[.float .f64 b] 25)).alloc (.cells #[.int .i64 0, .slice none 0 0, .int .i64 0, .int .i64 0] 24) := ⟨_, rfl⟩
  rw [← hW]
  have b0 : Bk W w.heap.size 24 #[.int .i64 C, .slice A xs.length c, .int .i64 R, .int .i64 T] := by rw [hW]; exact ((Bk.new _ _ _).alloc _).alloc _
  have b1 : Bk W (w.heap.size + 1) 25 #[.float .f64 b] := by rw [hW]; have := (Bk.new (w.alloc (.cells #[.int .i64 C, .slice A xs.length c, .int .i64 R, .int .i64 T] 24)) 25 #[.float .f64 b]).alloc (.cells #[.int .i64 0, .slice none 0 0, .int .i64 0, .int .i64 0] 24); rwa [World.size_alloc] at this
  have b2 : Bk W (w.heap.size + 1 + 1) 24 #[.int .i64 0, .slice none 0 0, .int .i64 0, .int .i64 0] := by rw [hW]; have := Bk.new ((w.alloc (.cells #[.int .i64 C, .slice A xs.length c, .int .i64 R, .int .i64 T] 24)).alloc (.cells #[.float .f64 b] 25)) 24 #[.int .i64 0, .slice none 0 0, .int .i64 0, .int .i64 0]; rwa [World.size_alloc, World.size_alloc] at this
  have hbW : Below w.heap.size w W := by rw [hW]; exact (((Below.refl _ _).alloc (Nat.le_refl _) _).alloc (by simp) _).alloc (by simp; omega) _
  have hszW : W.heap.size = w.heap.size + 3 := by rw [hW]; simp
  have hxW : SlArg W A xs c := HX.out.below hbW
  clear hW
  refine (HCK.out W hxW).mono ?_
  rintro e w1 ⟨rfl, hb1⟩
  have c0 := b0.below hb1 (by omega)
  have c1 := b1.below hb1 (by omega)
  have c2 := b2.below hb1 (by omega)
  have hbw1 : Below w.heap.size w w1 := hbW.trans (hb1.mono (by omega))
  have k1 := c1.cell 0
  have k3 := c0.cell 3
  have KB := Lib.hid hbw1
  have C2 := Lib.hid c2
  have r0 := c2.cell 0; have r1 := c2.cell 1; have r2 := c2.cell 2; have r3 := c2.cell 3
  have g0 := c2.frozen 0; have g1 := c2.frozen 1; have g2 := c2.frozen 2; have g3 := c2.frozen 3
  clear hxW hb1 hbW hbw1 b0 b1 b2 c0 c1 c2 hszW
  simp at k1 k3 r0 r1 r2 r3
  go_wp2_with (go_at_call 12; refine (HM1.out _).mono ?_; rintro e w' ⟨rfl, rfl⟩)
  obtain ⟨wf, hwf⟩ : ∃ wf, wf = (((w1.setCell ⟨w.heap.size + 1 + 1, 0, none⟩ (.int .i64 0)).setCell ⟨w.heap.size + 1 + 1, 1, none⟩ (.slice none 0 0)).setCell ⟨w.heap.size + 1 + 1, 2, none⟩ (.int .i64 0)).setCell ⟨w.heap.size + 1 + 1, 3, none⟩ (.int .i64 0) := ⟨_, rfl⟩
  have x5 := (((C2.out.set 0 (.int .i64 0)).set 1 (.slice none 0 0)).set 2 (.int .i64 0)).set 3 (.int .i64 0)
  have hbf := (((KB.out.setCell (p := ⟨w.heap.size + 1 + 1, 0, none⟩) (by simp; omega) (.int .i64 0)).setCell (p := ⟨w.heap.size + 1 + 1, 1, none⟩) (by simp; omega) (.slice none 0 0)).setCell (p := ⟨w.heap.size + 1 + 1, 2, none⟩) (by simp; omega) (.int .i64 0)).setCell (p := ⟨w.heap.size + 1 + 1, 3, none⟩) (by simp; omega) (.int .i64 0)
  rw [← hwf] at x5 hbf ⊢
  have s0 := x5.cell 0; have s1 := x5.cell 1; have s2 := x5.cell 2; have s3 := x5.cell 3
  simp at s0 s1 s2 s3
  refine bodyPost_ret (v := .tuple #[zeroFac, .int .i64 6]) (by simp [results, Try.results10, go_sem, zeroFac, s0, s1, s2, s3]) rfl ?_
  exact ⟨rfl, hbf⟩

end Go.Proofs.Ytdpmpfbbfknlmaa
