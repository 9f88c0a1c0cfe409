/- Contracts: the factor of bytes, of the document. -/
import Derived.Test.YtghoephmihogeaaSi
set_option linter.unusedVariables false
set_option linter.unusedSimpArgs false
namespace Go.Proofs.Ytghoephmihogeaa
open Go.RowKit Go.Shelf Lev

set_option maxRecDepth 100000 in
set_option maxHeartbeats 4000000 in
theorem rdec_in (s : ByteArray) (hs : s.size ≤ 1000) (hh : decH (bl s) = true) (hl : (s.size : Int) = 6 + 8 * sizeI (lg (bl s) 1)) (w : World) :
    Calls Try.prog 19 #[.string s] w (DecEnd (bl s) w) := by
  obtain ⟨g1, g2, g3, g4⟩ := decH_iff.1 hh
  rw [bl_len] at g1
  obtain ⟨x0, x1, x2, x3, x4, x5, e0, e1, e2, e3, e4, e5, l0, l1, l2, l3, l4, l5, u0, u1, u2, u3, u4, u5⟩ := head_bytes s g1
  have t0 : decide (s.size < 6) = false := decide_eq_false (by omega)
  have t1 : ((x0 : Int) != 81) = false := by rw [bne_eq_false_iff_eq]; omega
  have t0b : decide ((s.size : Int) < 6) = false := decide_eq_false (by omega)
  have b0 : (0 : Int) < (s.size : Int) := by omega
  have b1 : (1 : Int) < (s.size : Int) := by omega
  have b2 : (2 : Int) < (s.size : Int) := by omega
  have b3 : (3 : Int) < (s.size : Int) := by omega
  have b4 : (4 : Int) < (s.size : Int) := by omega
  have b5 : (5 : Int) < (s.size : Int) := by omega
  have n0 : 0 < s.size := by omega
  have n1 : 1 < s.size := by omega
  have n2 : 2 < s.size := by omega
  have n3 : 3 < s.size := by omega
  have n4 : 4 < s.size := by omega
  have n5 : 5 < s.size := by omega
  have hsp := size_pos (C := (x1 : Int)) (by omega) (by omega)
  have t6 : decide (x1 < 1) = false := decide_eq_false (by omega)
  have t6b : decide ((x1 : Int) < 1) = false := decide_eq_false (by omega)
  have t7 : decide (6 < x1) = false := decide_eq_false (by omega)
  have t7b : decide ((6 : Int) < (x1 : Int)) = false := decide_eq_false (by omega)
  obtain ⟨R, hR⟩ : ∃ R : Int, R = 256 * (x2 : Int) + x3 := ⟨_, rfl⟩
  obtain ⟨T, hT⟩ : ∃ T : Int, T = 256 * (x4 : Int) + x5 := ⟨_, rfl⟩
  obtain ⟨N, hN⟩ : ∃ N : Nat, (N : Int) = sizeI (x1 : Int) := ⟨(sizeI (x1 : Int)).toNat, by omega⟩
  have hN3 : 3 ≤ N ∧ N ≤ 28 := by omega
  obtain ⟨hN1, hN2⟩ := hN3
  have vR : IntKind.i64.wrap (256 * (x2 : Int) + x3) = R := by rw [IntKind.wrap_i64, hR]; omega
  have vT : IntKind.i64.wrap (256 * (x4 : Int) + x5) = T := by rw [IntKind.wrap_i64, hT]; omega
  have hS := fun W => rsize_any (x1 : Int) W
  rw [← hN] at hS hsp
  have HS := Lib.hid hS
  have hdN : decN (bl s) = N := by unfold decN; rw [l1, ← hN]; omega
  have hdR : decR (bl s) = R := by unfold decR; rw [l2, l3, hR]
  have hdT : decT (bl s) = T := by unfold decT; rw [l4, l5, hT]
  have hlN : (s.size : Int) = 6 + 8 * (N : Int) := by rw [hl, l1, hN]
  have HL := Lib.hid (show ((bl s).length : Int) = 6 + 8 * sizeI (lg (bl s) 1) from by rw [bl_len]; exact hl)
  have HBAD := Lib.hid (fun (k : Nat) (hk : k < N) (hb : getB (bl s) (6 + 8 * (k : Int)) = false) => decE_bad hh HL.out (by rw [hdN]; exact hk) hb)
  have HCHK := Lib.hid (fun (hA : AllB (bl s) N) (hc : checkS (x1 : Int) (decX (bl s) N) R T = false) => decE_chk (l := bl s) hh HL.out (by rw [hdN]; exact hA) (by rw [l1, hdN, hdR, hdT]; exact hc))
  have HOKE := Lib.hid (fun (hA : AllB (bl s) N) (hc : checkS (x1 : Int) (decX (bl s) N) R T = true) => (show decE (bl s) = 0 ∧ decF (bl s) = ⟨(x1 : Int), decX (bl s) N, R, T⟩ by
    have h := decE_ok (l := bl s) hh HL.out (by rw [hdN]; exact hA) (by rw [l1, hdN, hdR, hdT]; exact hc)
    rw [l1, hdN, hdR, hdT] at h; exact h))
  have HNS := Lib.hid hlN
  have t9 : ((s.size : Int) != 6 + 8 * (N : Int)) = false := by rw [bne_eq_false_iff_eq]; exact hlN
  skip
  clear hl hh g2 g3 g4 l0 l1 l2 l3 l4 l5 hR hT hN hS hdN hdR hdT hlN
  obtain ⟨i0, hi, hq0, hq1, hq2⟩ := info_parts infoFloat
  go_enter Try.func19, Try.ntmps19
  go_wp2_with (go_at_call 34; refine (HS.out _).mono ?_; rintro e w' ⟨rfl, rfl⟩)
  have hB := (Bk.new w 31 #[.int .i64 0, .slice none 0 0, .int .i64 0, .int .i64 0])
  obtain ⟨W, hW⟩ : ∃ W, W = w.alloc (.cells #[.int .i64 0, .slice none 0 0, .int .i64 0, .int .i64 0] 31) := ⟨_, rfl⟩
  rw [← hW] at hB ⊢
  have KW : Below w.heap.size w W := by rw [hW]; exact (Below.refl _ _).alloc (Nat.le_refl _) _
  have hsz : W.heap.size = w.heap.size + 1 := by rw [hW]; simp
  have HB := Lib.hid hB; have HK := Lib.hid KW; have HSZ := Lib.hid hsz
  clear hB KW hW hsz
  have v0 : IntKind.i64.wrap ((x1 : Int)) = (x1 : Int) := by rw [IntKind.wrap_i64]; omega
  have v1 : IntKind.i64.wrap ((x2 : Int)) = (x2 : Int) := by rw [IntKind.wrap_i64]; omega
  have v2 : IntKind.i64.wrap ((x3 : Int)) = (x3 : Int) := by rw [IntKind.wrap_i64]; omega
  have v3 : IntKind.i64.wrap ((x4 : Int)) = (x4 : Int) := by rw [IntKind.wrap_i64]; omega
  have v4 : IntKind.i64.wrap ((x5 : Int)) = (x5 : Int) := by rw [IntKind.wrap_i64]; omega
  have v5 : IntKind.i64.wrap (256 * (x2 : Int)) = 256 * (x2 : Int) := by rw [IntKind.wrap_i64]; omega
  have v6 : IntKind.i64.wrap (256 * (x4 : Int)) = 256 * (x4 : Int) := by rw [IntKind.wrap_i64]; omega
  refine wp_region_any (by kernel_rfl) ?_
  try (change wpAny _ _ _ _ _ _ _ (World.drew _))
  refine wpAny_take (i := 0) (v := ?v0) rfl (by kernel_rfl) (by kernel_rfl) (by kernel_rfl) (fun _ _ _ h => h) (Or.inl ⟨by rfl, ?h0⟩) ?r0
  case h0 => intro w; go_simp; try (with_reducible rfl)
  try simp only [Act.put, List.getElem_toArray, List.getElem_cons_succ, List.getElem_cons_zero, List.setIfInBounds_toArray, List.set_cons_zero, List.set_cons_succ]
  refine wpAny_take (i := 1) (v := ?v1) rfl (by kernel_rfl) (by kernel_rfl) (by kernel_rfl) (fun _ _ _ h => h) (Or.inl ⟨by rfl, ?h1⟩) ?r1
  case h1 => intro w; go_simp; try (with_reducible rfl)
  try simp only [Act.put, List.getElem_toArray, List.getElem_cons_succ, List.getElem_cons_zero, List.setIfInBounds_toArray, List.set_cons_zero, List.set_cons_succ]
  refine wpAny_take (i := 2) (v := ?v2) rfl (by kernel_rfl) (by kernel_rfl) (by kernel_rfl) (fun _ _ _ h => h) (Or.inl ⟨by rfl, ?h2⟩) ?r2
  case h2 => intro w; go_simp; try (with_reducible rfl)
  try simp only [Act.put, List.getElem_toArray, List.getElem_cons_succ, List.getElem_cons_zero, List.setIfInBounds_toArray, List.set_cons_zero, List.set_cons_succ]
  refine wpAny_take (i := 3) (v := ?v3) rfl (by kernel_rfl) (by kernel_rfl) (by kernel_rfl) (fun _ _ _ h => h) (Or.inl ⟨by rfl, ?h3⟩) ?r3
  case h3 => intro w; go_simp; try (with_reducible rfl)
  try simp only [Act.put, List.getElem_toArray, List.getElem_cons_succ, List.getElem_cons_zero, List.setIfInBounds_toArray, List.set_cons_zero, List.set_cons_succ]
  refine wpAny_take (i := 4) (v := ?v4) rfl (by kernel_rfl) (by kernel_rfl) (by kernel_rfl) (fun _ _ _ h => h) (Or.inl ⟨by rfl, ?h4⟩) ?r4
  case h4 => intro w; go_simp; try (with_reducible rfl)
  try simp only [Act.put, List.getElem_toArray, List.getElem_cons_succ, List.getElem_cons_zero, List.setIfInBounds_toArray, List.set_cons_zero, List.set_cons_succ]
  refine wpAny_take (i := 5) (v := ?v5) rfl (by kernel_rfl) (by kernel_rfl) (by kernel_rfl) (fun _ _ _ h => h) (Or.inl ⟨by rfl, ?h5⟩) ?r5
  case h5 => intro w; go_simp; try (with_reducible rfl)
  try simp only [Act.put, List.getElem_toArray, List.getElem_cons_succ, List.getElem_cons_zero, List.setIfInBounds_toArray, List.set_cons_zero, List.set_cons_succ]
  refine wpAny_take (i := 6) (v := ?v6) rfl (by kernel_rfl) (by kernel_rfl) (by kernel_rfl) (fun _ _ _ h => h) (Or.inl ⟨by rfl, ?h6⟩) ?r6
  case h6 => intro w; go_simp; try (with_reducible rfl)
  try simp only [Act.put, List.getElem_toArray, List.getElem_cons_succ, List.getElem_cons_zero, List.setIfInBounds_toArray, List.set_cons_zero, List.set_cons_succ]
  refine wpAny_take (i := 7) (v := ?v7) rfl (by kernel_rfl) (by kernel_rfl) (by kernel_rfl) (fun _ _ _ h => h) (Or.inl ⟨by rfl, ?h7⟩) ?r7
  case h7 => intro w; go_simp; try (with_reducible rfl)
  try simp only [Act.put, List.getElem_toArray, List.getElem_cons_succ, List.getElem_cons_zero, List.setIfInBounds_toArray, List.set_cons_zero, List.set_cons_succ]
  refine wpAny_take (i := 8) (v := ?v8) rfl (by kernel_rfl) (by kernel_rfl) (by kernel_rfl) (fun _ _ _ h => h) (Or.inl ⟨by rfl, ?h8⟩) ?r8
  case h8 => intro w; go_simp; try (with_reducible rfl)
  try simp only [Act.put, List.getElem_toArray, List.getElem_cons_succ, List.getElem_cons_zero, List.setIfInBounds_toArray, List.set_cons_zero, List.set_cons_succ]
  refine wpAny_take (i := 9) (v := ?v9) rfl (by kernel_rfl) (by kernel_rfl) (by kernel_rfl) (fun _ _ _ h => h) (Or.inl ⟨by rfl, ?h9⟩) ?r9
  case h9 => intro w; go_simp; try (with_reducible rfl)
  try simp only [Act.put, List.getElem_toArray, List.getElem_cons_succ, List.getElem_cons_zero, List.setIfInBounds_toArray, List.set_cons_zero, List.set_cons_succ]
  refine wpAny_take (i := 10) (v := ?v10) rfl (by kernel_rfl) (by kernel_rfl) (by kernel_rfl) (fun _ _ _ h => h) (Or.inl ⟨by rfl, ?h10⟩) ?r10
  case h10 => intro w; go_simp; try (with_reducible rfl)
  try simp only [Act.put, List.getElem_toArray, List.getElem_cons_succ, List.getElem_cons_zero, List.setIfInBounds_toArray, List.set_cons_zero, List.set_cons_succ]
  refine wpAny_take (i := 11) (v := ?v11) rfl (by kernel_rfl) (by kernel_rfl) (by kernel_rfl) (fun _ _ _ h => h) (Or.inl ⟨by rfl, ?h11⟩) ?r11
  case h11 => intro w; go_simp; try (with_reducible rfl)
  try simp only [Act.put, List.getElem_toArray, List.getElem_cons_succ, List.getElem_cons_zero, List.setIfInBounds_toArray, List.set_cons_zero, List.set_cons_succ]
  refine wpAny_take (i := 12) (v := ?v12) rfl (by kernel_rfl) (by kernel_rfl) (by kernel_rfl) (fun _ _ _ h => h) (Or.inl ⟨by rfl, ?h12⟩) ?r12
  case h12 => intro w; go_simp; try (with_reducible rfl)
  try simp only [Act.put, List.getElem_toArray, List.getElem_cons_succ, List.getElem_cons_zero, List.setIfInBounds_toArray, List.set_cons_zero, List.set_cons_succ]
  refine wpAny_take (i := 13) (v := ?v13) rfl (by kernel_rfl) (by kernel_rfl) (by kernel_rfl) (fun _ _ _ h => h) (Or.inl ⟨by rfl, ?h13⟩) ?r13
  case h13 => intro w; go_simp; try (with_reducible rfl)
  try simp only [Act.put, List.getElem_toArray, List.getElem_cons_succ, List.getElem_cons_zero, List.setIfInBounds_toArray, List.set_cons_zero, List.set_cons_succ]
  refine wpAny_take (i := 14) (v := ?v14) rfl (by kernel_rfl) (by kernel_rfl) (by kernel_rfl) (fun _ _ _ h => h) (Or.inl ⟨by rfl, ?h14⟩) ?r14
  case h14 => intro w; go_simp; try (with_reducible rfl)
  try simp only [Act.put, List.getElem_toArray, List.getElem_cons_succ, List.getElem_cons_zero, List.setIfInBounds_toArray, List.set_cons_zero, List.set_cons_succ]
  refine wpAny_take (i := 15) (v := ?v15) rfl (by kernel_rfl) (by kernel_rfl) (by kernel_rfl) (fun _ _ _ h => h) (Or.inl ⟨by rfl, ?h15⟩) ?r15
  case h15 => intro w; go_simp; try (with_reducible rfl)
  try simp only [Act.put, List.getElem_toArray, List.getElem_cons_succ, List.getElem_cons_zero, List.setIfInBounds_toArray, List.set_cons_zero, List.set_cons_succ]
  refine wpAny_take (i := 16) (v := ?v16) rfl (by kernel_rfl) (by kernel_rfl) (by kernel_rfl) (fun _ _ _ h => h) (Or.inl ⟨by rfl, ?h16⟩) ?r16
  case h16 => intro w; go_simp; try (with_reducible rfl)
  try simp only [Act.put, List.getElem_toArray, List.getElem_cons_succ, List.getElem_cons_zero, List.setIfInBounds_toArray, List.set_cons_zero, List.set_cons_succ]
  refine wpAny_take (i := 17) (v := ?v17) rfl (by kernel_rfl) (by kernel_rfl) (by kernel_rfl) (fun _ _ _ h => h) (Or.inl ⟨by rfl, ?h17⟩) ?r17
  case h17 => intro w; go_simp; try (with_reducible rfl)
  try simp only [Act.put, List.getElem_toArray, List.getElem_cons_succ, List.getElem_cons_zero, List.setIfInBounds_toArray, List.set_cons_zero, List.set_cons_succ]
  refine wpAny_take (i := 18) (v := ?v18) rfl (by kernel_rfl) (by kernel_rfl) (by kernel_rfl) (fun _ _ _ h => h) (Or.inl ⟨by rfl, ?h18⟩) ?r18
  case h18 => intro w; go_simp; try (with_reducible rfl)
  try simp only [Act.put, List.getElem_toArray, List.getElem_cons_succ, List.getElem_cons_zero, List.setIfInBounds_toArray, List.set_cons_zero, List.set_cons_succ]
  refine wpAny_take (i := 19) (v := ?v19) rfl (by kernel_rfl) (by kernel_rfl) (by kernel_rfl) (fun _ _ _ h => h) (Or.inl ⟨by rfl, ?h19⟩) ?r19
  case h19 => intro w; go_simp; try (with_reducible rfl)
  try simp only [Act.put, List.getElem_toArray, List.getElem_cons_succ, List.getElem_cons_zero, List.setIfInBounds_toArray, List.set_cons_zero, List.set_cons_succ]
  obtain ⟨W2, hW2⟩ : ∃ W2, W2 = W.drew := ⟨_, rfl⟩
  have hB2 : Bk W2 w.heap.size 31 #[.int .i64 0, .slice none 0 0, .int .i64 0, .int .i64 0] := by rw [hW2]; exact HB.out.drewN 1
  have hK2 : Below w.heap.size w W2 := by rw [hW2]; exact HK.out.drew
  have hz2 : W2.heap.size = w.heap.size + 1 := by rw [hW2]; exact HSZ.out
  rw [← hW2]
  have hz : w.heap.size < W2.heap.size := by omega
  obtain ⟨c0, c1, c2, c3⟩ := hB2.c4
  obtain ⟨f0, f1, f2, f3⟩ := hB2.f4
  have HB2 := Lib.hid hB2; have HK2 := Lib.hid hK2; have HZ2 := Lib.hid hz2
  clear hW2 hB2 hK2 hz2
  refine wpAny_ready (rs := [20]) (by kernel_rfl) (by simp) ?_
  refine AllReady.cons rfl (fun K hK => ?_) AllReady.nil
  go_simp
  refine hK _ _ ?_
  clear hK K
  refine wpAny_ready (rs := [21]) (by kernel_rfl) (by simp) ?_
  refine AllReady.cons rfl (fun K hK => ?_) AllReady.nil
  go_simp
  refine hK _ _ ?_
  clear hK K
  refine wpAny_done (by kernel_rfl) ?_ _
  clear v0 v1 v2 v3 v4 v5 v6
  go_wp2_with fail
  have hA3 := HB2.out.alloc (.cells #[.int .i64 (x1 : Int), .slice none 0 0, .int .i64 R, .int .i64 T] 31)
  have hB3 := Bk.new W2 31 #[.int .i64 (x1 : Int), .slice none 0 0, .int .i64 R, .int .i64 T]
  have hK3 := HK2.out.alloc (Nat.le_of_lt hz) (.cells #[.int .i64 (x1 : Int), .slice none 0 0, .int .i64 R, .int .i64 T] 31)
  have hz3 : w.heap.size + 2 ≤ (W2.alloc (.cells #[.int .i64 (x1 : Int), .slice none 0 0, .int .i64 R, .int .i64 T] 31)).heap.size := by have := HZ2.out; simp; omega
  rw [HZ2.out] at hB3 ⊢
  have HA3 := Lib.hid hA3; have HB3 := Lib.hid hB3; have HK3 := Lib.hid hK3; have HZ3 := Lib.hid hz3
  clear hA3 hB3 hK3 hz3 hz c0 c1 c2 c3 f0 f1 f2 f3
  go_loopw [6] (fun i wr => ∃ (k : Nat) (v : Value), k ≤ N ∧ i = .int .i64 (k : Int) ∧ Bk wr w.heap.size 31 #[.int .i64 0, .slice none 0 0, .int .i64 0, .int .i64 0] ∧ Bk wr (w.heap.size + 1) 31 #[.int .i64 (x1 : Int), v, .int .i64 R, .int .i64 T] ∧
      wr.ownsRow (w.heap.size + 2) 22 1 v k ((decX (bl s) k).map (Value.float .f64)) ∧ Below w.heap.size w wr ∧ w.heap.size + 2 ≤ wr.heap.size ∧ AllB (bl s) k) (fun i _ => N - (intOf i).toNat)
  case atStart => exact ⟨0, .slice none 0 0, Nat.zero_le _, rfl, HA3.out, HB3.out, World.ownsRow_nil _ _ _ _, HK3.out, HZ3.out, fun j hj => absurd hj (by omega)⟩
  case round =>
    obtain ⟨k, v, hk, rfl, hA, hB, hown, hbel, hsz, hall⟩ := hrel
    have HA := Lib.hid hA; have HB := Lib.hid hB; have HO := Lib.hid hown; have HBL := Lib.hid hbel; have HSZ4 := Lib.hid hsz; have HALL := Lib.hid hall
    clear hA hB hown hbel hall
    have hs28 := HNS.out
    by_cases hlt : k < N
    · have tt : (6 + 8 * (k : Int)) < (s.size : Int) := by omega
      have tt2 : ((k : Int)) < (N : Int) := by omega
      clear hs28
      cases hb : getB (bl s) (6 + 8 * (k : Int))
      · have HE := Lib.hid (HBAD.out k hlt hb)
        have hv := getV_bad hb
        have hg := fun W => docget_any s (6 + 8 * (k : Int)) hs W
        rw [hv] at hg
        have HG := Lib.hid hg
        clear hb hv hg
        go_wp2_with fail
        refine (HG.out _).mono ?_
        rintro e w6 ⟨rfl, hw6⟩
        have h6 := hw6.symm
        clear hw6
        subst h6
        have hA6 : Bk w6 w.heap.size 31 #[.int .i64 0, .slice none 0 0, .int .i64 0, .int .i64 0] := HA.out
        have hB6 : Below w.heap.size w w6 := HBL.out
        obtain ⟨c0, c1, c2, c3⟩ := hA6.c4
        obtain ⟨f0, f1, f2, f3⟩ := hA6.f4
        have HA6 := Lib.hid hA6; have HB6 := Lib.hid hB6
        clear hA6 hB6 
        go_wp2
        refine ret_fac2 (v0 := .int .i64 0) (v1 := .slice none 0 0) (v2 := .int .i64 0) (v3 := .int .i64 0) (x := .int .i64 2) (g := w.heap.size) rfl rfl rfl ((fac_box HA6.out _ _ _ _).1) rfl ?_
        exact decEnd_no HE.out (by decide) ((fac_box HA6.out _ _ _ _).2.1 _ _ HB6.out (Nat.le_refl _))
      · have hv := getV_yes hb
        have hg := fun W => docget_any s (6 + 8 * (k : Int)) hs W
        rw [hv] at hg
        have HG := Lib.hid hg
        have HX := Lib.hid (decX_snoc (bl s) k)
        have HBT := Lib.hid hb
        have HLT := Lib.hid (getN_lt (bl s) (6 + 8 * k))
        clear hb hv hg
        generalize getN (bl s) (6 + 8 * k) = y at *
        go_wp2_with fail
        refine (HG.out _).mono ?_
        rintro e w6 ⟨rfl, hw6⟩
        have h6 := hw6.symm
        clear hw6
        subst h6
        have hA6 : Bk w6 w.heap.size 31 #[.int .i64 0, .slice none 0 0, .int .i64 0, .int .i64 0] := HA.out
        have hB6 : Below w.heap.size w w6 := HBL.out
        have hC6 : Bk w6 (w.heap.size + 1) 31 #[.int .i64 (x1 : Int), v, .int .i64 R, .int .i64 T] := HB.out
        have hO6 : w6.ownsRow (w.heap.size + 2) 22 1 v k ((decX (bl s) k).map (Value.float .f64)) := HO.out
        have hz6 : w.heap.size + 2 ≤ w6.heap.size := HSZ4.out
        have kG : w6.cell? ⟨w.heap.size + 1, 1, none⟩ = some v := hC6.c4.2.1
        have HA6 := Lib.hid hA6; have HB6 := Lib.hid hB6; have HC6 := Lib.hid hC6; have HO6 := Lib.hid hO6; have HZ6 := Lib.hid hz6
        clear hA6 hB6 hC6 hO6 
        go_wp2_with (at_builtin; refine wpList_append_own _ rfl _ _ 29 rfl (w.heap.size + 2) 22 i0 (.float .f64 0) 1 8 Try.underlying29 hi hq0 hq1 hq2 rfl (by decide) _ _ _ rfl (HO6.out.alloc _) ⟨w6.heap.size, 0, none⟩ 1 1 [.float .f64 y] rfl rfl (cell_one_new _ _ _) (by simp [Value.oneCell']) (by unfold maxLen; omega) (by omega) (by have := HZ6.out; simp; omega) ?_)
        intro v' w7 hown' hgrow _
        have hne : ∀ q, q < w.heap.size + 2 → some q ≠ v.ownBlock := fun q hq h => by have := (HO6.out.lt _ h.symm).1; omega
        have A1 : ∀ {t : TypeId} {cs : Array Value} {q : Nat}, Bk w6 q t cs → q < w.heap.size + 2 → Bk w7 q t cs := fun {t cs q} h hq => (hgrow.block q (by have := h.lt; simp; omega) (hne q hq)).trans (h.alloc _)
        have hA7 := A1 HA6.out (by omega)
        have hC7 := A1 HC6.out (by omega)
        have kG7 : w7.cell? ⟨w.heap.size + 1, 1, none⟩ = some v := hC7.c4.2.1
        have fG7 : w7.frozen? ⟨w.heap.size + 1, 1, none⟩ = false := hC7.frozen 1
        have hB7 : Below w.heap.size w w7 := Below.grown (HB6.out.alloc (by have := HZ6.out; omega) _) hgrow (by have := HZ6.out; simp; omega) (fun q hq => by have := (HO6.out.lt q hq).1; omega)
        obtain ⟨g', cap, rfl⟩ : ∃ g cap, v' = .slice (some ⟨g, 0, none⟩) (k + 1) cap := own_slice hown' (by omega)
        have hz7 : w.heap.size + 2 ≤ w7.heap.size := by have := (hown'.lt g' rfl); omega
        have HA7 := Lib.hid hA7; have HC7 := Lib.hid hC7; have HB7 := Lib.hid hB7; have HO7 := Lib.hid hown'; have HZ7 := Lib.hid hz7
        clear hA7 hC7 hB7 hown' hgrow A1 hne hz7 kG
        go_wp2
        go_roundw
        case rel =>
          refine ⟨k + 1, _, by omega, by go_num, (HA7.out.other (p := ⟨w.heap.size + 1, 1, none⟩) (by simp) _), ?_, ownsRow_setCell_below (by rw [HX.out, List.map_append]; exact HO7.out) (a := ⟨w.heap.size + 1, 1, none⟩) (by show w.heap.size + 1 < _; omega) _, HB7.out.setCell (p := ⟨w.heap.size + 1, 1, none⟩) (by show w.heap.size ≤ w.heap.size + 1; omega) _, by have := HZ7.out; simpa [World.setCell] using this, allB_snoc HALL.out HBT.out⟩
          have := HC7.out.set 1 (.slice (some ⟨g', 0, none⟩) (k + 1) cap)
          simpa using this
        case measure => simp [intOf]; omega
    · obtain rfl : k = N := by omega
      have tt : ¬ (6 + 8 * (k : Int)) < (s.size : Int) := by omega
      clear hs28
      obtain ⟨A, c, rfl, hsl, hfar⟩ := made_of_own (ys := decX (bl s) k) (by rw [decX_len]; exact HO.out) (decX_lt _ _)
      have hck := fun W h => rcheck_any (x1 : Int) A (decX (bl s) k) c R T W h
      unfold facV at hck
      have HB' := HB.out
      rw [decX_len] at hck HB'
      have HFAR := Lib.hid hfar; have HSL := Lib.hid hsl
      obtain ⟨d0, d1, d2, d3⟩ := HB'.c4
      have HBB := Lib.hid HB'
      clear HB' hsl hfar
      cases hc : checkS (x1 : Int) (decX (bl s) k) R T
      · rw [hc] at hck
        have HE := Lib.hid (HCHK.out HALL.out hc)
        have HCK := Lib.hid hck
        clear hck hc
        go_wp2_with fail
        refine (HCK.out _ HSL.out).mono ?_
        rintro e w8 ⟨rfl, hb8⟩
        have hA8 := HA.out.below hb8 (by have := HSZ4.out; omega)
        have hB8 := Below.chain HBL.out hb8
        obtain ⟨c0, c1, c2, c3⟩ := hA8.c4
        obtain ⟨f0, f1, f2, f3⟩ := hA8.f4
        have HA8 := Lib.hid hA8; have HB8 := Lib.hid hB8
        clear hA8 hB8 hb8 d0 d1 d2 d3
        go_wp2
        refine ret_fac2 (v0 := .int .i64 0) (v1 := .slice none 0 0) (v2 := .int .i64 0) (v3 := .int .i64 0) (x := .int .i64 2) (g := w.heap.size) rfl rfl rfl ((fac_box HA8.out _ _ _ _).1) rfl ?_
        exact decEnd_no HE.out (by decide) ((fac_box HA8.out _ _ _ _).2.1 _ _ HB8.out (Nat.le_refl _))
      · rw [hc] at hck
        have HE := Lib.hid (HOKE.out HALL.out hc)
        have HCK := Lib.hid hck
        clear hck hc
        go_wp2_with fail
        refine (HCK.out _ HSL.out).mono ?_
        rintro e w8 ⟨rfl, hb8⟩
        have hA8 := HA.out.below hb8 (by have := HSZ4.out; omega)
        have hC8 := HBB.out.below hb8 (by have := HSZ4.out; omega)
        have hB8 := Below.chain HBL.out hb8
        have hs8 := HSL.out.below hb8
        obtain ⟨c0, c1, c2, c3⟩ := hA8.c4
        obtain ⟨f0, f1, f2, f3⟩ := hA8.f4
        clear d0 d1 d2 d3
        obtain ⟨d0, d1, d2, d3⟩ := hC8.c4
        have HA8 := Lib.hid hA8; have HB8 := Lib.hid hB8; have HS8 := Lib.hid hs8
        clear hA8 hB8 hb8 hC8 hs8
        go_wp2
        refine ret_fac2 (v0 := .int .i64 (x1 : Int)) (v1 := .slice A k c) (v2 := .int .i64 R) (v3 := .int .i64 T) (x := .int .i64 0) (g := w.heap.size) rfl rfl rfl ((fac_box HA8.out _ _ _ _).1) rfl ?_
        exact decEnd_yes HE.out (decX_len _ _) ((fac_box HA8.out _ _ _ _).2.2 _ _ _ HS8.out (fun _ a ha => by have := HFAR.out a ha; omega)) ((fac_box HA8.out _ _ _ _).2.1 _ _ HB8.out (Nat.le_refl _))

end Go.Proofs.Ytghoephmihogeaa
