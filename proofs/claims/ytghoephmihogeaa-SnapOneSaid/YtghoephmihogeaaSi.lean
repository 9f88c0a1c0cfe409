/- Contracts: the factor of bytes, of the code and of the document. -/
import Derived.Test.YtghoephmihogeaaSh
import Derived.Test.YtghoephmihogeaaUb
import Derived.StillTailTactics
set_option linter.unusedVariables false
set_option linter.unusedSimpArgs false
namespace Go.Proofs.Ytghoephmihogeaa
open Go.RowKit Go.Shelf Lev

/-- What decoding gives. -/
def DecEnd (l : List UInt8) (w : World) (e : Ending) (w' : World) : Prop :=
  (∃ (A : Option Addr) (c : Nat), e = .returned (.tuple #[facV (decF l).C A (decF l).xs.length c (decF l).R (decF l).T, .int .i64 (decE l)]) ∧ SlArg w' A (decF l).xs c) ∧ Below w.heap.size w w'
theorem decEnd_no {l : List UInt8} {w w' : World} {n : Int} (h : decE l = n) (hn : n ≠ 0) (hb : Below w.heap.size w w') : DecEnd l w (.returned (.tuple #[.agg #[.int .i64 0, .slice none 0 0, .int .i64 0, .int .i64 0], .int .i64 n])) w' := by
  refine ⟨⟨none, 0, ?_, ?_⟩, hb⟩
  · rw [decF_no (by rw [h]; exact hn), h]; rfl
  · rw [decF_no (by rw [h]; exact hn)]; exact ⟨FlR.nil _ _ _, Nat.le_refl _, by decide⟩
theorem i64_or_nat' (a b : Nat) (ha : a < 9223372036854775808) (hb : b < 9223372036854775808) : bits .or .i64 (a : Int) (b : Int) = ((a ||| b : Nat) : Int) := by
  have hx : a ||| b < 2 ^ 63 := Nat.or_lt_two_pow (by omega) (by omega)
  show IntKind.i64.wrap ((BitVec.ofInt 64 (a : Int) ||| BitVec.ofInt 64 (b : Int)).toNat : Int) = _
  rw [BitVec.toNat_or, ofInt_i64' a ha, ofInt_i64' b hb, IntKind.wrap_i64]
  omega
theorem or_two {a b : Nat} (ha : a < 256) (hb : b < 256) : bits .or .i64 ((a : Int) * 256) (b : Int) = 256 * (a : Int) + b := by
  have h := i64_or_nat' (a * 256) b (by omega) (by omega)
  rw [Int.natCast_mul] at h
  rw [show ((256 : Nat) : Int) = 256 from rfl] at h
  rw [h, nat_join 8 (a * 256) b (Nat.mul_mod_left _ _) hb]
  omega
def AllB (l : List UInt8) (k : Nat) : Prop := ∀ j, j < k → getB l (6 + 8 * (j : Int)) = true
theorem allB_snoc {l : List UInt8} {k : Nat} (h : AllB l k) (hb : getB l (6 + 8 * (k : Int)) = true) : AllB l (k + 1) := fun j hj => by
  rcases (by omega : j < k ∨ j = k) with h1 | rfl
  · exact h j h1
  · exact hb
theorem infoFloat : (Try.prog.info? 22).map (fun i => (i.zero, i.size, i.bytes)) = some (some (.float .f64 0), 1, 8) := by kernel_rfl
theorem decEnd_yes {l : List UInt8} {w w' : World} {C R T : Int} {xs : List Nat} {A : Option Addr} {n c : Nat} (h : decE l = 0 ∧ decF l = ⟨C, xs, R, T⟩) (hn : xs.length = n) (hs : SlArg w' A xs c) (hb : Below w.heap.size w w') : DecEnd l w (.returned (.tuple #[.agg #[.int .i64 C, .slice A n c, .int .i64 R, .int .i64 T], .int .i64 0])) w' := by
  subst hn
  refine ⟨⟨A, c, ?_, ?_⟩, hb⟩
  · rw [h.1, h.2]; rfl
  · rw [h.2]; exact hs
theorem decX_lt (l : List UInt8) (n : Nat) : ∀ y ∈ decX l n, y < 18446744073709551616 := by
  intro y hy
  unfold decX at hy
  rw [List.mem_map] at hy
  obtain ⟨k, _, rfl⟩ := hy
  exact getN_lt _ _
theorem getV_yes {s : ByteArray} {k : Nat} (h : getB (bl s) (6 + 8 * (k : Int)) = true) : getV s (6 + 8 * (k : Int)) = .tuple #[.float .f64 (getN (bl s) (6 + 8 * k)), .bool true] := by
  unfold getV getF
  rw [if_pos h, h, show (6 + 8 * (k : Int)).toNat = 6 + 8 * k from by omega]
theorem getV_bad {s : ByteArray} {i : Int} (h : getB (bl s) i = false) : getV s i = .tuple #[.float .f64 0, .bool false] := by
  unfold getV getF
  rw [if_neg (by rw [h]; decide), h]
/-- What the bytes of the head are. -/
theorem head_bytes (s : ByteArray) (h : 6 ≤ s.size) : ∃ x0 x1 x2 x3 x4 x5 : Nat, s[0].toNat = x0 ∧ s[1].toNat = x1 ∧ s[2].toNat = x2 ∧ s[3].toNat = x3 ∧ s[4].toNat = x4 ∧ s[5].toNat = x5 ∧
    lg (bl s) 0 = x0 ∧ lg (bl s) 1 = x1 ∧ lg (bl s) 2 = x2 ∧ lg (bl s) 3 = x3 ∧ lg (bl s) 4 = x4 ∧ lg (bl s) 5 = x5 ∧ x0 < 256 ∧ x1 < 256 ∧ x2 < 256 ∧ x3 < 256 ∧ x4 < 256 ∧ x5 < 256 :=
  ⟨_, _, _, _, _, _, rfl, rfl, rfl, rfl, rfl, rfl, lg_at s 0 (by omega), lg_at s 1 (by omega), lg_at s 2 (by omega), lg_at s 3 (by omega), lg_at s 4 (by omega), lg_at s 5 (by omega), UInt8.toNat_lt _, UInt8.toNat_lt _, UInt8.toNat_lt _, UInt8.toNat_lt _, UInt8.toNat_lt _, UInt8.toNat_lt _⟩

set_option maxRecDepth 100000 in
set_option maxHeartbeats 4000000 in
theorem sdec_h1 (s : ByteArray) (hs : s.size ≤ 1000) (h : s.size < 6) (w : World) :
    Calls Try.prog 18 #[.string s] w (DecEnd (bl s) w) := by
  have he : decE (bl s) = 9 := decE_head (by rw [← Bool.not_eq_true, decH_iff, bl_len]; omega)
  have HE := Lib.hid he
  clear he
  go_enter Try.func18, Try.ntmps18
  go_wp2
  refine ret_fac2 (v0 := .int .i64 0) (v1 := .slice none 0 0) (v2 := .int .i64 0) (v3 := .int .i64 0) (x := .int .i64 9) (g := w.heap.size) rfl rfl rfl (Bk.new w 31 #[.int .i64 0, .slice none 0 0, .int .i64 0, .int .i64 0]) rfl ?_
  exact decEnd_no HE.out (by decide) ((Below.refl _ _).alloc (Nat.le_refl _) _)

set_option maxRecDepth 100000 in
set_option maxHeartbeats 4000000 in
theorem sdec_h2 (s : ByteArray) (hs : s.size ≤ 1000) (h : 6 ≤ s.size) (h0 : lg (bl s) 0 ≠ 81) (w : World) :
    Calls Try.prog 18 #[.string s] w (DecEnd (bl s) w) := by
  have he : decE (bl s) = 9 := decE_head (by rw [← Bool.not_eq_true, decH_iff, bl_len]; omega)
  have HE := Lib.hid he
  obtain ⟨x0, x1, x2, x3, x4, x5, e0, e1, e2, e3, e4, e5, l0, _, _, _, _, _, u0, _⟩ := head_bytes s h
  have t0 : decide (s.size < 6) = false := decide_eq_false (by omega)
  have t1 : ((x0 : Int) != 81) = true := by rw [bne_iff_ne]; omega
  have t2 : (0 : Int) < (s.size : Int) := by omega
  have t3 : 0 < s.size := by omega
  clear he h0 e1 e2 e3 e4 e5 l0
  go_enter Try.func18, Try.ntmps18
  go_wp2
  refine ret_fac2 (v0 := .int .i64 0) (v1 := .slice none 0 0) (v2 := .int .i64 0) (v3 := .int .i64 0) (x := .int .i64 9) (g := w.heap.size) rfl rfl rfl (Bk.new w 31 #[.int .i64 0, .slice none 0 0, .int .i64 0, .int .i64 0]) rfl ?_
  exact decEnd_no HE.out (by decide) ((Below.refl _ _).alloc (Nat.le_refl _) _)

set_option maxRecDepth 100000 in
set_option maxHeartbeats 4000000 in
theorem sdec_h3 (s : ByteArray) (hs : s.size ≤ 1000) (h : 6 ≤ s.size) (h0 : lg (bl s) 0 = 81) (h1 : lg (bl s) 1 < 1) (w : World) :
    Calls Try.prog 18 #[.string s] w (DecEnd (bl s) w) := by
  have he : decE (bl s) = 9 := decE_head (by rw [← Bool.not_eq_true, decH_iff, bl_len]; omega)
  have HE := Lib.hid he
  obtain ⟨x0, x1, x2, x3, x4, x5, e0, e1, e2, e3, e4, e5, l0, l1, _, _, _, _, u0, u1, _⟩ := head_bytes s h
  have t0 : decide (s.size < 6) = false := decide_eq_false (by omega)
  have t1 : ((x0 : Int) != 81) = false := by rw [bne_eq_false_iff_eq]; omega
  have t2 : (0 : Int) < (s.size : Int) := by omega
  have t3 : 0 < s.size := by omega
  have t4 : (1 : Int) < (s.size : Int) := by omega
  have t5 : 1 < s.size := by omega
  have t6 : (sizeI (x1 : Int) == 0) = true := by rw [beq_iff_eq]; exact size_zero.2 (by omega)
  clear he h0 h1 e2 e3 e4 e5 l0 l1
  go_enter Try.func18, Try.ntmps18
  go_wp2_with (go_at_call 23; refine (size_any _ _).mono ?_; rintro e w' ⟨rfl, rfl⟩)
  refine ret_fac2 (v0 := .int .i64 0) (v1 := .slice none 0 0) (v2 := .int .i64 0) (v3 := .int .i64 0) (x := .int .i64 9) (g := w.heap.size) rfl rfl rfl (Bk.new w 31 #[.int .i64 0, .slice none 0 0, .int .i64 0, .int .i64 0]) rfl ?_
  exact decEnd_no HE.out (by decide) ((Below.refl _ _).alloc (Nat.le_refl _) _)

set_option maxRecDepth 100000 in
set_option maxHeartbeats 4000000 in
theorem sdec_h4 (s : ByteArray) (hs : s.size ≤ 1000) (h : 6 ≤ s.size) (h0 : lg (bl s) 0 = 81) (h1 : 6 < lg (bl s) 1) (w : World) :
    Calls Try.prog 18 #[.string s] w (DecEnd (bl s) w) := by
  have he : decE (bl s) = 9 := decE_head (by rw [← Bool.not_eq_true, decH_iff, bl_len]; omega)
  have HE := Lib.hid he
  obtain ⟨x0, x1, x2, x3, x4, x5, e0, e1, e2, e3, e4, e5, l0, l1, _, _, _, _, u0, u1, _⟩ := head_bytes s h
  have t0 : decide (s.size < 6) = false := decide_eq_false (by omega)
  have t1 : ((x0 : Int) != 81) = false := by rw [bne_eq_false_iff_eq]; omega
  have t2 : (0 : Int) < (s.size : Int) := by omega
  have t3 : 0 < s.size := by omega
  have t4 : (1 : Int) < (s.size : Int) := by omega
  have t5 : 1 < s.size := by omega
  have t6 : (sizeI (x1 : Int) == 0) = true := by rw [beq_iff_eq]; exact size_zero.2 (by omega)
  clear he h0 h1 e2 e3 e4 e5 l0 l1
  go_enter Try.func18, Try.ntmps18
  go_wp2_with (go_at_call 23; refine (size_any _ _).mono ?_; rintro e w' ⟨rfl, rfl⟩)
  refine ret_fac2 (v0 := .int .i64 0) (v1 := .slice none 0 0) (v2 := .int .i64 0) (v3 := .int .i64 0) (x := .int .i64 9) (g := w.heap.size) rfl rfl rfl (Bk.new w 31 #[.int .i64 0, .slice none 0 0, .int .i64 0, .int .i64 0]) rfl ?_
  exact decEnd_no HE.out (by decide) ((Below.refl _ _).alloc (Nat.le_refl _) _)

set_option maxRecDepth 100000 in
set_option maxHeartbeats 4000000 in
theorem sdec_len (s : ByteArray) (hs : s.size ≤ 1000) (hh : decH (bl s) = true) (hl : (s.size : Int) ≠ 6 + 8 * sizeI (lg (bl s) 1)) (w : World) :
    Calls Try.prog 18 #[.string s] w (DecEnd (bl s) w) := by
  have he : decE (bl s) = 3 := decE_len hh (by rw [bl_len]; exact hl)
  have HE := Lib.hid he
  obtain ⟨g1, g2, g3, g4⟩ := decH_iff.1 hh
  rw [bl_len] at g1
  obtain ⟨x0, x1, x2, x3, x4, x5, e0, e1, e2, e3, e4, e5, l0, l1, l2, l3, l4, l5, u0, u1, u2, u3, u4, u5⟩ := head_bytes s g1
  have t0 : decide (s.size < 6) = false := decide_eq_false (by omega)
  have t1 : ((x0 : Int) != 81) = false := by rw [bne_eq_false_iff_eq]; omega
  have t0b : decide ((s.size : Int) < 6) = false := decide_eq_false (by omega)
  have b0 : (0 : Int) < (s.size : Int) := by omega
  have b1 : (1 : Int) < (s.size : Int) := by omega
  have b2 : (2 : Int) < (s.size : Int) := by omega
  have b3 : (3 : Int) < (s.size : Int) := by omega
  have b4 : (4 : Int) < (s.size : Int) := by omega
  have b5 : (5 : Int) < (s.size : Int) := by omega
  have n0 : 0 < s.size := by omega
  have n1 : 1 < s.size := by omega
  have n2 : 2 < s.size := by omega
  have n3 : 3 < s.size := by omega
  have n4 : 4 < s.size := by omega
  have n5 : 5 < s.size := by omega
  have hsp := size_pos (C := (x1 : Int)) (by omega) (by omega)
  have t6 : (sizeI (x1 : Int) == 0) = false := by rw [beq_eq_false_iff_ne]; omega
  have o2 := or_two u2 u3
  have o4 := or_two u4 u5
  obtain ⟨R, hR⟩ : ∃ R : Int, R = 256 * (x2 : Int) + x3 := ⟨_, rfl⟩
  obtain ⟨T, hT⟩ : ∃ T : Int, T = 256 * (x4 : Int) + x5 := ⟨_, rfl⟩
  obtain ⟨N, hN⟩ : ∃ N : Nat, (N : Int) = sizeI (x1 : Int) := ⟨(sizeI (x1 : Int)).toNat, by omega⟩
  have hN3 : 3 ≤ N ∧ N ≤ 28 := by omega
  obtain ⟨hN1, hN2⟩ := hN3
  rw [← hR] at o2
  rw [← hT] at o4
  have hS := fun W => size_any (x1 : Int) W
  rw [← hN] at hS hsp
  have HS := Lib.hid hS
  have t9 : ((s.size : Int) != 6 + 8 * (N : Int)) = true := by rw [bne_iff_ne, hN, ← l1]; exact hl
  rw [← hN] at t6
  clear he hl hh g2 g3 g4 l0 l1 l2 l3 l4 l5 hR hT hN hS
  go_enter Try.func18, Try.ntmps18
  go_wp2_with (go_at_call 23; refine (HS.out _).mono ?_; rintro e w' ⟨rfl, rfl⟩)
  have hB := (Bk.new w 31 #[.int .i64 0, .slice none 0 0, .int .i64 0, .int .i64 0])
  obtain ⟨W, hW⟩ : ∃ W, W = w.alloc (.cells #[.int .i64 0, .slice none 0 0, .int .i64 0, .int .i64 0] 31) := ⟨_, rfl⟩
  rw [← hW] at hB ⊢
  have KW : Below w.heap.size w W := by rw [hW]; exact (Below.refl _ _).alloc (Nat.le_refl _) _
  have hsz : W.heap.size = w.heap.size + 1 := by rw [hW]; simp
  have HB := Lib.hid hB; have HK := Lib.hid KW; have HSZ := Lib.hid hsz
  clear hB KW hW hsz
  have v0 : IntKind.i64.wrap ((x1 : Int)) = (x1 : Int) := by rw [IntKind.wrap_i64]; omega
  have v1 : IntKind.i64.wrap ((x2 : Int)) = (x2 : Int) := by rw [IntKind.wrap_i64]; omega
  have v2 : IntKind.i64.wrap ((x3 : Int)) = (x3 : Int) := by rw [IntKind.wrap_i64]; omega
  have v3 : IntKind.i64.wrap ((x4 : Int)) = (x4 : Int) := by rw [IntKind.wrap_i64]; omega
  have v4 : IntKind.i64.wrap ((x5 : Int)) = (x5 : Int) := by rw [IntKind.wrap_i64]; omega
  have v5 : IntKind.i64.wrap ((x2 : Int) * 256) = (x2 : Int) * 256 := by rw [IntKind.wrap_i64]; omega
  have v6 : IntKind.i64.wrap ((x4 : Int) * 256) = (x4 : Int) * 256 := by rw [IntKind.wrap_i64]; omega
  refine wp_region_any (by kernel_rfl) ?_
  try (change wpAny _ _ _ _ _ _ _ (World.drew _))
  refine wpAny_take (i := 0) (v := ?v0) rfl (by kernel_rfl) (by kernel_rfl) (by kernel_rfl) (fun _ _ _ h => h) (Or.inl ⟨by rfl, ?h0⟩) ?r0
  case h0 => intro w; go_simp; try (with_reducible rfl)
  try simp only [Act.put, List.getElem_toArray, List.getElem_cons_succ, List.getElem_cons_zero, List.setIfInBounds_toArray, List.set_cons_zero, List.set_cons_succ]
  refine wpAny_take (i := 1) (v := ?v1) rfl (by kernel_rfl) (by kernel_rfl) (by kernel_rfl) (fun _ _ _ h => h) (Or.inl ⟨by rfl, ?h1⟩) ?r1
  case h1 => intro w; go_simp; try (with_reducible rfl)
  try simp only [Act.put, List.getElem_toArray, List.getElem_cons_succ, List.getElem_cons_zero, List.setIfInBounds_toArray, List.set_cons_zero, List.set_cons_succ]
  refine wpAny_take (i := 2) (v := ?v2) rfl (by kernel_rfl) (by kernel_rfl) (by kernel_rfl) (fun _ _ _ h => h) (Or.inl ⟨by rfl, ?h2⟩) ?r2
  case h2 => intro w; go_simp; try (with_reducible rfl)
  try simp only [Act.put, List.getElem_toArray, List.getElem_cons_succ, List.getElem_cons_zero, List.setIfInBounds_toArray, List.set_cons_zero, List.set_cons_succ]
  refine wpAny_take (i := 3) (v := ?v3) rfl (by kernel_rfl) (by kernel_rfl) (by kernel_rfl) (fun _ _ _ h => h) (Or.inl ⟨by rfl, ?h3⟩) ?r3
  case h3 => intro w; go_simp; try (with_reducible rfl)
  try simp only [Act.put, List.getElem_toArray, List.getElem_cons_succ, List.getElem_cons_zero, List.setIfInBounds_toArray, List.set_cons_zero, List.set_cons_succ]
  refine wpAny_take (i := 4) (v := ?v4) rfl (by kernel_rfl) (by kernel_rfl) (by kernel_rfl) (fun _ _ _ h => h) (Or.inl ⟨by rfl, ?h4⟩) ?r4
  case h4 => intro w; go_simp; try (with_reducible rfl)
  try simp only [Act.put, List.getElem_toArray, List.getElem_cons_succ, List.getElem_cons_zero, List.setIfInBounds_toArray, List.set_cons_zero, List.set_cons_succ]
  refine wpAny_take (i := 5) (v := ?v5) rfl (by kernel_rfl) (by kernel_rfl) (by kernel_rfl) (fun _ _ _ h => h) (Or.inl ⟨by rfl, ?h5⟩) ?r5
  case h5 => intro w; go_simp; try (with_reducible rfl)
  try simp only [Act.put, List.getElem_toArray, List.getElem_cons_succ, List.getElem_cons_zero, List.setIfInBounds_toArray, List.set_cons_zero, List.set_cons_succ]
  refine wpAny_take (i := 6) (v := ?v6) rfl (by kernel_rfl) (by kernel_rfl) (by kernel_rfl) (fun _ _ _ h => h) (Or.inl ⟨by rfl, ?h6⟩) ?r6
  case h6 => intro w; go_simp; try (with_reducible rfl)
  try simp only [Act.put, List.getElem_toArray, List.getElem_cons_succ, List.getElem_cons_zero, List.setIfInBounds_toArray, List.set_cons_zero, List.set_cons_succ]
  refine wpAny_take (i := 7) (v := ?v7) rfl (by kernel_rfl) (by kernel_rfl) (by kernel_rfl) (fun _ _ _ h => h) (Or.inl ⟨by rfl, ?h7⟩) ?r7
  case h7 => intro w; go_simp; try (with_reducible rfl)
  try simp only [Act.put, List.getElem_toArray, List.getElem_cons_succ, List.getElem_cons_zero, List.setIfInBounds_toArray, List.set_cons_zero, List.set_cons_succ]
  refine wpAny_take (i := 8) (v := ?v8) rfl (by kernel_rfl) (by kernel_rfl) (by kernel_rfl) (fun _ _ _ h => h) (Or.inl ⟨by rfl, ?h8⟩) ?r8
  case h8 => intro w; go_simp; try (with_reducible rfl)
  try simp only [Act.put, List.getElem_toArray, List.getElem_cons_succ, List.getElem_cons_zero, List.setIfInBounds_toArray, List.set_cons_zero, List.set_cons_succ]
  refine wpAny_take (i := 9) (v := ?v9) rfl (by kernel_rfl) (by kernel_rfl) (by kernel_rfl) (fun _ _ _ h => h) (Or.inl ⟨by rfl, ?h9⟩) ?r9
  case h9 => intro w; go_simp; try (with_reducible rfl)
  try simp only [Act.put, List.getElem_toArray, List.getElem_cons_succ, List.getElem_cons_zero, List.setIfInBounds_toArray, List.set_cons_zero, List.set_cons_succ]
  refine wpAny_take (i := 10) (v := ?v10) rfl (by kernel_rfl) (by kernel_rfl) (by kernel_rfl) (fun _ _ _ h => h) (Or.inl ⟨by rfl, ?h10⟩) ?r10
  case h10 => intro w; go_simp; try (with_reducible rfl)
  try simp only [Act.put, List.getElem_toArray, List.getElem_cons_succ, List.getElem_cons_zero, List.setIfInBounds_toArray, List.set_cons_zero, List.set_cons_succ]
  refine wpAny_take (i := 11) (v := ?v11) rfl (by kernel_rfl) (by kernel_rfl) (by kernel_rfl) (fun _ _ _ h => h) (Or.inl ⟨by rfl, ?h11⟩) ?r11
  case h11 => intro w; go_simp; try (with_reducible rfl)
  try simp only [Act.put, List.getElem_toArray, List.getElem_cons_succ, List.getElem_cons_zero, List.setIfInBounds_toArray, List.set_cons_zero, List.set_cons_succ]
  refine wpAny_take (i := 12) (v := ?v12) rfl (by kernel_rfl) (by kernel_rfl) (by kernel_rfl) (fun _ _ _ h => h) (Or.inl ⟨by rfl, ?h12⟩) ?r12
  case h12 => intro w; go_simp; try (with_reducible rfl)
  try simp only [Act.put, List.getElem_toArray, List.getElem_cons_succ, List.getElem_cons_zero, List.setIfInBounds_toArray, List.set_cons_zero, List.set_cons_succ]
  refine wpAny_take (i := 13) (v := ?v13) rfl (by kernel_rfl) (by kernel_rfl) (by kernel_rfl) (fun _ _ _ h => h) (Or.inl ⟨by rfl, ?h13⟩) ?r13
  case h13 => intro w; go_simp; try (with_reducible rfl)
  try simp only [Act.put, List.getElem_toArray, List.getElem_cons_succ, List.getElem_cons_zero, List.setIfInBounds_toArray, List.set_cons_zero, List.set_cons_succ]
  refine wpAny_take (i := 14) (v := ?v14) rfl (by kernel_rfl) (by kernel_rfl) (by kernel_rfl) (fun _ _ _ h => h) (Or.inl ⟨by rfl, ?h14⟩) ?r14
  case h14 => intro w; go_simp; try (with_reducible rfl)
  try simp only [Act.put, List.getElem_toArray, List.getElem_cons_succ, List.getElem_cons_zero, List.setIfInBounds_toArray, List.set_cons_zero, List.set_cons_succ]
  refine wpAny_take (i := 15) (v := ?v15) rfl (by kernel_rfl) (by kernel_rfl) (by kernel_rfl) (fun _ _ _ h => h) (Or.inl ⟨by rfl, ?h15⟩) ?r15
  case h15 => intro w; go_simp; try (with_reducible rfl)
  try simp only [Act.put, List.getElem_toArray, List.getElem_cons_succ, List.getElem_cons_zero, List.setIfInBounds_toArray, List.set_cons_zero, List.set_cons_succ]
  refine wpAny_take (i := 16) (v := ?v16) rfl (by kernel_rfl) (by kernel_rfl) (by kernel_rfl) (fun _ _ _ h => h) (Or.inl ⟨by rfl, ?h16⟩) ?r16
  case h16 => intro w; go_simp; try (with_reducible rfl)
  try simp only [Act.put, List.getElem_toArray, List.getElem_cons_succ, List.getElem_cons_zero, List.setIfInBounds_toArray, List.set_cons_zero, List.set_cons_succ]
  refine wpAny_take (i := 17) (v := ?v17) rfl (by kernel_rfl) (by kernel_rfl) (by kernel_rfl) (fun _ _ _ h => h) (Or.inl ⟨by rfl, ?h17⟩) ?r17
  case h17 => intro w; go_simp; try (with_reducible rfl)
  try simp only [Act.put, List.getElem_toArray, List.getElem_cons_succ, List.getElem_cons_zero, List.setIfInBounds_toArray, List.set_cons_zero, List.set_cons_succ]
  refine wpAny_take (i := 18) (v := ?v18) rfl (by kernel_rfl) (by kernel_rfl) (by kernel_rfl) (fun _ _ _ h => h) (Or.inl ⟨by rfl, ?h18⟩) ?r18
  case h18 => intro w; go_simp; try (with_reducible rfl)
  try simp only [Act.put, List.getElem_toArray, List.getElem_cons_succ, List.getElem_cons_zero, List.setIfInBounds_toArray, List.set_cons_zero, List.set_cons_succ]
  refine wpAny_take (i := 19) (v := ?v19) rfl (by kernel_rfl) (by kernel_rfl) (by kernel_rfl) (fun _ _ _ h => h) (Or.inl ⟨by rfl, ?h19⟩) ?r19
  case h19 => intro w; go_simp; try (with_reducible rfl)
  try simp only [Act.put, List.getElem_toArray, List.getElem_cons_succ, List.getElem_cons_zero, List.setIfInBounds_toArray, List.set_cons_zero, List.set_cons_succ]
  obtain ⟨W2, hW2⟩ : ∃ W2, W2 = W.drew := ⟨_, rfl⟩
  have hB2 : Bk W2 w.heap.size 31 #[.int .i64 0, .slice none 0 0, .int .i64 0, .int .i64 0] := by rw [hW2]; exact HB.out.drewN 1
  have hK2 : Below w.heap.size w W2 := by rw [hW2]; exact HK.out.drew
  have hz2 : W2.heap.size = w.heap.size + 1 := by rw [hW2]; exact HSZ.out
  rw [← hW2]
  have hz : w.heap.size < W2.heap.size := by omega
  obtain ⟨c0, c1, c2, c3⟩ := hB2.c4
  obtain ⟨f0, f1, f2, f3⟩ := hB2.f4
  have HB2 := Lib.hid hB2; have HK2 := Lib.hid hK2; have HZ2 := Lib.hid hz2
  clear hW2 hB2 hK2 hz2
  refine wpAny_ready (rs := [20]) (by kernel_rfl) (by simp) ?_
  refine AllReady.cons rfl (fun K hK => ?_) AllReady.nil
  go_simp
  refine hK _ _ ?_
  clear hK K
  refine wpAny_ready (rs := [21]) (by kernel_rfl) (by simp) ?_
  refine AllReady.cons rfl (fun K hK => ?_) AllReady.nil
  go_simp
  refine hK _ _ ?_
  clear hK K
  refine wpAny_done (by kernel_rfl) ?_ _
  clear v0 v1 v2 v3 v4 v5 v6
  go_wp2_with (go_at_call 23; refine (HS.out _).mono ?_; rintro e w' ⟨rfl, rfl⟩)
  refine ret_fac2 (v0 := .int .i64 0) (v1 := .slice none 0 0) (v2 := .int .i64 0) (v3 := .int .i64 0) (x := .int .i64 3) (g := w.heap.size) rfl rfl rfl (((fac_box HB2.out _ _ _ _).1).alloc _) rfl ?_
  exact decEnd_no HE.out (by decide) (((fac_box HB2.out _ _ _ _).2.1 _ _ HK2.out (Nat.le_refl _)).alloc (by have := HZ2.out; simp [stored4, World.setCell]; omega) _)

set_option maxRecDepth 100000 in
set_option maxHeartbeats 4000000 in
theorem rdec_h1 (s : ByteArray) (hs : s.size ≤ 1000) (h : s.size < 6) (w : World) :
    Calls Try.prog 19 #[.string s] w (DecEnd (bl s) w) := by
  have he : decE (bl s) = 9 := decE_head (by rw [← Bool.not_eq_true, decH_iff, bl_len]; omega)
  have HE := Lib.hid he
  clear he
  go_enter Try.func19, Try.ntmps19
  go_wp2
  refine ret_fac2 (v0 := .int .i64 0) (v1 := .slice none 0 0) (v2 := .int .i64 0) (v3 := .int .i64 0) (x := .int .i64 9) (g := w.heap.size) rfl rfl rfl (Bk.new w 31 #[.int .i64 0, .slice none 0 0, .int .i64 0, .int .i64 0]) rfl ?_
  exact decEnd_no HE.out (by decide) ((Below.refl _ _).alloc (Nat.le_refl _) _)

set_option maxRecDepth 100000 in
set_option maxHeartbeats 4000000 in
theorem rdec_h2 (s : ByteArray) (hs : s.size ≤ 1000) (h : 6 ≤ s.size) (h0 : lg (bl s) 0 ≠ 81) (w : World) :
    Calls Try.prog 19 #[.string s] w (DecEnd (bl s) w) := by
  have he : decE (bl s) = 9 := decE_head (by rw [← Bool.not_eq_true, decH_iff, bl_len]; omega)
  have HE := Lib.hid he
  obtain ⟨x0, x1, x2, x3, x4, x5, e0, e1, e2, e3, e4, e5, l0, _, _, _, _, _, u0, _⟩ := head_bytes s h
  have t0 : decide (s.size < 6) = false := decide_eq_false (by omega)
  have t1 : ((x0 : Int) != 81) = true := by rw [bne_iff_ne]; omega
  have t2 : (0 : Int) < (s.size : Int) := by omega
  have t3 : 0 < s.size := by omega
  clear he h0 e1 e2 e3 e4 e5 l0
  go_enter Try.func19, Try.ntmps19
  go_wp2
  refine ret_fac2 (v0 := .int .i64 0) (v1 := .slice none 0 0) (v2 := .int .i64 0) (v3 := .int .i64 0) (x := .int .i64 9) (g := w.heap.size) rfl rfl rfl (Bk.new w 31 #[.int .i64 0, .slice none 0 0, .int .i64 0, .int .i64 0]) rfl ?_
  exact decEnd_no HE.out (by decide) ((Below.refl _ _).alloc (Nat.le_refl _) _)

set_option maxRecDepth 100000 in
set_option maxHeartbeats 4000000 in
theorem rdec_h3 (s : ByteArray) (hs : s.size ≤ 1000) (h : 6 ≤ s.size) (h0 : lg (bl s) 0 = 81) (h1 : lg (bl s) 1 < 1) (w : World) :
    Calls Try.prog 19 #[.string s] w (DecEnd (bl s) w) := by
  have he : decE (bl s) = 9 := decE_head (by rw [← Bool.not_eq_true, decH_iff, bl_len]; omega)
  have HE := Lib.hid he
  obtain ⟨x0, x1, x2, x3, x4, x5, e0, e1, e2, e3, e4, e5, l0, l1, _, _, _, _, u0, u1, _⟩ := head_bytes s h
  have t0 : decide (s.size < 6) = false := decide_eq_false (by omega)
  have t1 : ((x0 : Int) != 81) = false := by rw [bne_eq_false_iff_eq]; omega
  have t2 : (0 : Int) < (s.size : Int) := by omega
  have t3 : 0 < s.size := by omega
  have t4 : (1 : Int) < (s.size : Int) := by omega
  have t5 : 1 < s.size := by omega
  have t6 : decide (x1 < 1) = true := decide_eq_true (by omega)
  have t6b : decide ((x1 : Int) < 1) = true := decide_eq_true (by omega)
  clear he h0 h1 e2 e3 e4 e5 l0 l1
  go_enter Try.func19, Try.ntmps19
  go_wp2
  refine ret_fac2 (v0 := .int .i64 0) (v1 := .slice none 0 0) (v2 := .int .i64 0) (v3 := .int .i64 0) (x := .int .i64 9) (g := w.heap.size) rfl rfl rfl (Bk.new w 31 #[.int .i64 0, .slice none 0 0, .int .i64 0, .int .i64 0]) rfl ?_
  exact decEnd_no HE.out (by decide) ((Below.refl _ _).alloc (Nat.le_refl _) _)

set_option maxRecDepth 100000 in
set_option maxHeartbeats 4000000 in
theorem rdec_h4 (s : ByteArray) (hs : s.size ≤ 1000) (h : 6 ≤ s.size) (h0 : lg (bl s) 0 = 81) (h1 : 6 < lg (bl s) 1) (w : World) :
    Calls Try.prog 19 #[.string s] w (DecEnd (bl s) w) := by
  have he : decE (bl s) = 9 := decE_head (by rw [← Bool.not_eq_true, decH_iff, bl_len]; omega)
  have HE := Lib.hid he
  obtain ⟨x0, x1, x2, x3, x4, x5, e0, e1, e2, e3, e4, e5, l0, l1, _, _, _, _, u0, u1, _⟩ := head_bytes s h
  have t0 : decide (s.size < 6) = false := decide_eq_false (by omega)
  have t1 : ((x0 : Int) != 81) = false := by rw [bne_eq_false_iff_eq]; omega
  have t2 : (0 : Int) < (s.size : Int) := by omega
  have t3 : 0 < s.size := by omega
  have t4 : (1 : Int) < (s.size : Int) := by omega
  have t5 : 1 < s.size := by omega
  have t6 : decide (x1 < 1) = false := decide_eq_false (by omega)
  have t6b : decide ((x1 : Int) < 1) = false := decide_eq_false (by omega)
  have t7 : decide (6 < x1) = true := decide_eq_true (by omega)
  have t7b : decide ((6 : Int) < (x1 : Int)) = true := decide_eq_true (by omega)
  clear he h0 h1 e2 e3 e4 e5 l0 l1
  go_enter Try.func19, Try.ntmps19
  go_wp2
  refine ret_fac2 (v0 := .int .i64 0) (v1 := .slice none 0 0) (v2 := .int .i64 0) (v3 := .int .i64 0) (x := .int .i64 9) (g := w.heap.size) rfl rfl rfl (Bk.new w 31 #[.int .i64 0, .slice none 0 0, .int .i64 0, .int .i64 0]) rfl ?_
  exact decEnd_no HE.out (by decide) ((Below.refl _ _).alloc (Nat.le_refl _) _)

set_option maxRecDepth 100000 in
set_option maxHeartbeats 4000000 in
theorem rdec_len (s : ByteArray) (hs : s.size ≤ 1000) (hh : decH (bl s) = true) (hl : (s.size : Int) ≠ 6 + 8 * sizeI (lg (bl s) 1)) (w : World) :
    Calls Try.prog 19 #[.string s] w (DecEnd (bl s) w) := by
  have he : decE (bl s) = 3 := decE_len hh (by rw [bl_len]; exact hl)
  have HE := Lib.hid he
  obtain ⟨g1, g2, g3, g4⟩ := decH_iff.1 hh
  rw [bl_len] at g1
  obtain ⟨x0, x1, x2, x3, x4, x5, e0, e1, e2, e3, e4, e5, l0, l1, l2, l3, l4, l5, u0, u1, u2, u3, u4, u5⟩ := head_bytes s g1
  have t0 : decide (s.size < 6) = false := decide_eq_false (by omega)
  have t1 : ((x0 : Int) != 81) = false := by rw [bne_eq_false_iff_eq]; omega
  have t0b : decide ((s.size : Int) < 6) = false := decide_eq_false (by omega)
  have b0 : (0 : Int) < (s.size : Int) := by omega
  have b1 : (1 : Int) < (s.size : Int) := by omega
  have b2 : (2 : Int) < (s.size : Int) := by omega
  have b3 : (3 : Int) < (s.size : Int) := by omega
  have b4 : (4 : Int) < (s.size : Int) := by omega
  have b5 : (5 : Int) < (s.size : Int) := by omega
  have n0 : 0 < s.size := by omega
  have n1 : 1 < s.size := by omega
  have n2 : 2 < s.size := by omega
  have n3 : 3 < s.size := by omega
  have n4 : 4 < s.size := by omega
  have n5 : 5 < s.size := by omega
  have hsp := size_pos (C := (x1 : Int)) (by omega) (by omega)
  have t6 : decide (x1 < 1) = false := decide_eq_false (by omega)
  have t6b : decide ((x1 : Int) < 1) = false := decide_eq_false (by omega)
  have t7 : decide (6 < x1) = false := decide_eq_false (by omega)
  have t7b : decide ((6 : Int) < (x1 : Int)) = false := decide_eq_false (by omega)
  obtain ⟨R, hR⟩ : ∃ R : Int, R = 256 * (x2 : Int) + x3 := ⟨_, rfl⟩
  obtain ⟨T, hT⟩ : ∃ T : Int, T = 256 * (x4 : Int) + x5 := ⟨_, rfl⟩
  obtain ⟨N, hN⟩ : ∃ N : Nat, (N : Int) = sizeI (x1 : Int) := ⟨(sizeI (x1 : Int)).toNat, by omega⟩
  have hN3 : 3 ≤ N ∧ N ≤ 28 := by omega
  obtain ⟨hN1, hN2⟩ := hN3
  have vR : IntKind.i64.wrap (256 * (x2 : Int) + x3) = R := by rw [IntKind.wrap_i64, hR]; omega
  have vT : IntKind.i64.wrap (256 * (x4 : Int) + x5) = T := by rw [IntKind.wrap_i64, hT]; omega
  have hS := fun W => rsize_any (x1 : Int) W
  rw [← hN] at hS hsp
  have HS := Lib.hid hS
  have t9 : ((s.size : Int) != 6 + 8 * (N : Int)) = true := by rw [bne_iff_ne, hN, ← l1]; exact hl
  skip
  clear he hl hh g2 g3 g4 l0 l1 l2 l3 l4 l5 hR hT hN hS
  go_enter Try.func19, Try.ntmps19
  go_wp2_with (go_at_call 34; refine (HS.out _).mono ?_; rintro e w' ⟨rfl, rfl⟩)
  refine ret_fac2 (v0 := .int .i64 0) (v1 := .slice none 0 0) (v2 := .int .i64 0) (v3 := .int .i64 0) (x := .int .i64 3) (g := w.heap.size) rfl rfl rfl (Bk.new w 31 #[.int .i64 0, .slice none 0 0, .int .i64 0, .int .i64 0]) rfl ?_
  exact decEnd_no HE.out (by decide) ((Below.refl _ _).alloc (Nat.le_refl _) _)

end Go.Proofs.Ytghoephmihogeaa
