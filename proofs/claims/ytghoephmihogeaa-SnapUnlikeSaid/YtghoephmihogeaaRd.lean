/- Walks of the laws SnapUnlike, SnapShort. -/
import Derived.Test.YtghoephmihogeaaRc
set_option linter.unusedVariables false
namespace Go.Proofs.Ytghoephmihogeaa
open Go.RowKit Go.Shelf Lev

theorem toList_bl (s : ByteArray) : s.toList = bl s := by unfold bl; exact Lib.toList_data s
theorem bytes_ext {s t : ByteArray} (h : s.toList = t.toList) : s = t := by
  rw [toList_bl, toList_bl] at h
  rw [← bl_back s, ← bl_back t, h]
theorem bl_take (s : ByteArray) (k : Nat) : bl (s.extract 0 k) = (bl s).take k := by
  unfold bl
  simp

set_option maxRecDepth 100000 in
set_option maxHeartbeats 2000000 in
theorem wun_l1 (s t : ByteArray) (w : World) (h : (400 : Int) < (s.size : Int)) :
    Calls Try.prog 8 #[.string s, .string t] w fun e w' => e = .returned (.bool true) ∧ Below w.heap.size w w' := by
  have HL := Lib.hid (fun W => live15 W)
  go_enter Try.func8, Try.ntmps8
  go_wp2_with fail
  refine (HL.out _).mono ?_
  rintro e w1 ⟨rfl, hb1⟩
  have B1 := Lib.hid (hb1)
  clear hb1
  go_wp2
  go_ret
  exact ⟨rfl, B1.out⟩

set_option maxRecDepth 100000 in
set_option maxHeartbeats 2000000 in
theorem wun_l2 (s t : ByteArray) (w : World) (h1 : (s.size : Int) ≤ 400) (h : (400 : Int) < (t.size : Int)) :
    Calls Try.prog 8 #[.string s, .string t] w fun e w' => e = .returned (.bool true) ∧ Below w.heap.size w w' := by
  have HL := Lib.hid (fun W => live15 W)
  go_enter Try.func8, Try.ntmps8
  go_wp2_with fail
  refine (HL.out _).mono ?_
  rintro e w1 ⟨rfl, hb1⟩
  have B1 := Lib.hid (hb1)
  clear hb1
  go_wp2
  go_ret
  exact ⟨rfl, B1.out⟩

set_option maxRecDepth 100000 in
set_option maxHeartbeats 2000000 in
theorem wun_n1 (s t : ByteArray) (w : World) (h1 : (s.size : Int) ≤ 400) (h2 : (t.size : Int) ≤ 400) (hd : decE (bl s) ≠ 0) :
    Calls Try.prog 8 #[.string s, .string t] w fun e w' => e = .returned (.bool true) ∧ Below w.heap.size w w' := by
  have HL := Lib.hid (fun W => live15 W)
  obtain ⟨F, hF⟩ : ∃ F, decF (bl s) = F := ⟨_, rfl⟩
  obtain ⟨G, hG⟩ : ∃ G, decF (bl t) = G := ⟨_, rfl⟩
  obtain ⟨E, hE⟩ : ∃ E, decE (bl s) = E := ⟨_, rfl⟩
  obtain ⟨E2, hE2⟩ : ∃ E2, decE (bl t) = E2 := ⟨_, rfl⟩
  have q1 : (E != 0) = true := by rw [bne_iff_ne, ← hE]; exact hd
  have H1 := Lib.hid (fun W => sdec_agg s (by omega) hF hE W)
  have H2 := Lib.hid (fun W => sdec_agg t (by omega) hG hE2 W)
  clear hF hG hE hE2 hd
  go_enter Try.func8, Try.ntmps8
  go_wp2_with fail
  refine (H1.out _).mono ?_
  rintro e w3 ⟨⟨A3, c3, rfl, hs3⟩, hb⟩
  have K3 := Lib.hid (((Keep.start w).call hb |>.more hs3).alloc #[.int .i64 F.C, .slice A3 F.xs.length c3, .int .i64 F.R, .int .i64 F.T] 31)
  clear hb hs3
  go_wp2_with fail
  refine (H2.out _).mono ?_
  rintro e w4 ⟨⟨A4, c4, rfl, hs4⟩, hb⟩
  have K4b := Lib.hid (K3.out.call hb)
  have K4 := Lib.hid (((K3.out.call hb).more hs4).alloc #[.int .i64 G.C, .slice A4 G.xs.length c4, .int .i64 G.R, .int .i64 G.T] 31)
  clear hb hs4
  go_wp2_with fail
  refine (HL.out _).mono ?_
  rintro e wl ⟨rfl, hbl⟩
  have BL := Lib.hid (Below.chain K4.out.below hbl)
  clear hbl
  go_wp2
  go_ret
  exact ⟨rfl, BL.out⟩

set_option maxRecDepth 100000 in
set_option maxHeartbeats 2000000 in
theorem wun_n2 (s t : ByteArray) (w : World) (h1 : (s.size : Int) ≤ 400) (h2 : (t.size : Int) ≤ 400) (hd : decE (bl s) = 0) (he : decE (bl t) ≠ 0) :
    Calls Try.prog 8 #[.string s, .string t] w fun e w' => e = .returned (.bool true) ∧ Below w.heap.size w w' := by
  have HL := Lib.hid (fun W => live15 W)
  obtain ⟨F, hF⟩ : ∃ F, decF (bl s) = F := ⟨_, rfl⟩
  obtain ⟨G, hG⟩ : ∃ G, decF (bl t) = G := ⟨_, rfl⟩
  obtain ⟨E2, hE2⟩ : ∃ E2, decE (bl t) = E2 := ⟨_, rfl⟩
  have q1 : (E2 != 0) = true := by rw [bne_iff_ne, ← hE2]; exact he
  have H1 := Lib.hid (fun W => sdec_agg s (by omega) hF hd W)
  have H2 := Lib.hid (fun W => sdec_agg t (by omega) hG hE2 W)
  clear hF hG hE2 hd he
  go_enter Try.func8, Try.ntmps8
  go_wp2_with fail
  refine (H1.out _).mono ?_
  rintro e w3 ⟨⟨A3, c3, rfl, hs3⟩, hb⟩
  have K3 := Lib.hid (((Keep.start w).call hb |>.more hs3).alloc #[.int .i64 F.C, .slice A3 F.xs.length c3, .int .i64 F.R, .int .i64 F.T] 31)
  clear hb hs3
  go_wp2_with fail
  refine (H2.out _).mono ?_
  rintro e w4 ⟨⟨A4, c4, rfl, hs4⟩, hb⟩
  have K4b := Lib.hid (K3.out.call hb)
  have K4 := Lib.hid (((K3.out.call hb).more hs4).alloc #[.int .i64 G.C, .slice A4 G.xs.length c4, .int .i64 G.R, .int .i64 G.T] 31)
  clear hb hs4
  go_wp2_with fail
  refine (HL.out _).mono ?_
  rintro e wl ⟨rfl, hbl⟩
  have BL := Lib.hid (Below.chain K4.out.below hbl)
  clear hbl
  go_wp2
  go_ret
  exact ⟨rfl, BL.out⟩

set_option maxRecDepth 100000 in
set_option maxHeartbeats 2000000 in
theorem wun_same (s : ByteArray) (w : World) (h1 : (s.size : Int) ≤ 400) (hd : decE (bl s) = 0) :
    Calls Try.prog 8 #[.string s, .string s] w fun e w' => e = .returned (.bool true) ∧ Below w.heap.size w w' := by
  have HL := Lib.hid (fun W => live15 W)
  obtain ⟨F, hF⟩ : ∃ F, decF (bl s) = F := ⟨_, rfl⟩
  have H1 := Lib.hid (fun W => sdec_agg s (by omega) hF hd W)
  have H2 := H1
  clear hF hd
  go_enter Try.func8, Try.ntmps8
  go_wp2_with fail
  refine (H1.out _).mono ?_
  rintro e w3 ⟨⟨A3, c3, rfl, hs3⟩, hb⟩
  have K3 := Lib.hid (((Keep.start w).call hb |>.more hs3).alloc #[.int .i64 F.C, .slice A3 F.xs.length c3, .int .i64 F.R, .int .i64 F.T] 31)
  clear hb hs3
  go_wp2_with fail
  refine (H2.out _).mono ?_
  rintro e w4 ⟨⟨A4, c4, rfl, hs4⟩, hb⟩
  have K4b := Lib.hid (K3.out.call hb)
  have K4 := Lib.hid (((K3.out.call hb).more hs4).alloc #[.int .i64 F.C, .slice A4 F.xs.length c4, .int .i64 F.R, .int .i64 F.T] 31)
  clear hb hs4
  have hsm := same_agg F A3 A4 c3 c4 _ (K4.out.arg (.tail _ (.head _))) (K4.out.arg (.head _))
  have HSM := Lib.hid hsm
  clear hsm
  obtain ⟨a0, a1, a2, a3⟩ := (K4b.out.box (.head _)).c4
  have hz := (K4b.out.box (.head _)).lt
  go_wp2_with fail
  refine HSM.out.mono ?_
  rintro e w5 ⟨rfl, hb⟩
  have K5 := Lib.hid (K4.out.call hb)
  clear hb a0 a1 a2 a3
  go_wp2_with fail
  refine (HL.out _).mono ?_
  rintro e wl ⟨rfl, hbl⟩
  have BL := Lib.hid (Below.chain K5.out.below hbl)
  clear hbl
  go_wp2
  go_ret
  exact ⟨rfl, BL.out⟩

set_option maxRecDepth 100000 in
set_option maxHeartbeats 2000000 in
theorem wun_diff (s t : ByteArray) (w : World) (h1 : (s.size : Int) ≤ 400) (h2 : (t.size : Int) ≤ 400) (hd : decE (bl s) = 0) (he : decE (bl t) = 0) (hne : s ≠ t) :
    Calls Try.prog 8 #[.string s, .string t] w fun e w' => e = .returned (.bool true) ∧ Below w.heap.size w w' := by
  have HL := Lib.hid (fun W => live15 W)
  obtain ⟨F, hF⟩ : ∃ F, decF (bl s) = F := ⟨_, rfl⟩
  obtain ⟨G, hG⟩ : ∃ G, decF (bl t) = G := ⟨_, rfl⟩
  obtain ⟨o1, n1⟩ := enc_dec hd
  obtain ⟨o2, n2⟩ := enc_dec he
  rw [hF] at o1 n1
  rw [hG] at o2 n2
  have hFG : F ≠ G := fun h => hne (by rw [← bl_back s, ← bl_back t, ← n1, ← n2, h])
  have hbl : (s.toList == t.toList) = false := by rw [beq_eq_false_iff_ne]; exact fun h => hne (bytes_ext h)
  have H1 := Lib.hid (fun W => sdec_agg s (by omega) hF hd W)
  have H2 := Lib.hid (fun W => sdec_agg t (by omega) hG he W)
  have HS := Lib.hid (fun W A A2 c c2 h h2 => unlike_agg F G A A2 c c2 W h h2 o1 o2 hFG)
  clear hF hG hd he n1 n2 o1 o2 hFG hne
  go_enter Try.func8, Try.ntmps8
  go_wp2_with fail
  refine (H1.out _).mono ?_
  rintro e w3 ⟨⟨A3, c3, rfl, hs3⟩, hb⟩
  have K3 := Lib.hid (((Keep.start w).call hb |>.more hs3).alloc #[.int .i64 F.C, .slice A3 F.xs.length c3, .int .i64 F.R, .int .i64 F.T] 31)
  clear hb hs3
  go_wp2_with fail
  refine (H2.out _).mono ?_
  rintro e w4 ⟨⟨A4, c4, rfl, hs4⟩, hb⟩
  have K4b := Lib.hid (K3.out.call hb)
  have K4 := Lib.hid (((K3.out.call hb).more hs4).alloc #[.int .i64 G.C, .slice A4 G.xs.length c4, .int .i64 G.R, .int .i64 G.T] 31)
  clear hb hs4
  have hsm := HS.out _ _ _ _ _ (K4.out.arg (.tail _ (.head _))) (K4.out.arg (.head _))
  have HSM := Lib.hid hsm
  clear hsm
  obtain ⟨a0, a1, a2, a3⟩ := (K4b.out.box (.head _)).c4
  have hz := (K4b.out.box (.head _)).lt
  go_wp2_with fail
  refine HSM.out.mono ?_
  rintro e w5 ⟨rfl, hb⟩
  have K5 := Lib.hid (K4.out.call hb)
  clear hb a0 a1 a2 a3
  go_wp2_with fail
  refine (HL.out _).mono ?_
  rintro e wl ⟨rfl, hbl⟩
  have BL := Lib.hid (Below.chain K5.out.below hbl)
  clear hbl
  go_wp2
  go_ret
  exact ⟨rfl, BL.out⟩

theorem wun (s t : ByteArray) (w : World) (hs : s.size ≤ maxLen) (ht : t.size ≤ maxLen) :
    Calls Try.prog 8 #[.string s, .string t] w fun e w' => e = .returned (.bool true) ∧ Below w.heap.size w w' := by
  by_cases h : (400 : Int) < (s.size : Int)
  · exact wun_l1 s t w h
  · by_cases h2 : (400 : Int) < (t.size : Int)
    · exact wun_l2 s t w (by omega) h2
    · by_cases hd : decE (bl s) = 0
      · by_cases he : decE (bl t) = 0
        · by_cases hst : s = t
          · subst hst; exact wun_same s w (by omega) hd
          · exact wun_diff s t w (by omega) (by omega) hd he hst
        · exact wun_n2 s t w (by omega) (by omega) hd he
      · exact wun_n1 s t w (by omega) (by omega) hd

set_option maxRecDepth 100000 in
set_option maxHeartbeats 2000000 in
theorem wsh_l1 (f : Fct) (A : Option Addr) (c : Nat) (n : Int) (m : ByteArray) (w : World) (hx : SlArg w A f.xs c) (h : (60 : Int) < (f.xs.length : Int)) :
    Calls Try.prog 9 #[.agg #[.int .i64 f.C, .slice A f.xs.length c, .int .i64 f.R, .int .i64 f.T], .int .i64 n, .string m] w fun e w' => e = .returned (.bool true) ∧ Below w.heap.size w w' := by
  have HL := Lib.hid (fun W => live15 W)
  clear hx
  go_enter Try.func9, Try.ntmps9
  go_wp2_with fail
  refine (HL.out _).mono ?_
  rintro e w1 ⟨rfl, hb1⟩
  have B1 := Lib.hid (Below.chain ((Below.refl _ _).alloc (Nat.le_refl _) _) hb1)
  clear hb1
  go_wp2
  go_ret
  exact ⟨rfl, B1.out⟩

set_option maxRecDepth 100000 in
set_option maxHeartbeats 2000000 in
theorem wsh_l2 (f : Fct) (A : Option Addr) (c : Nat) (n : Int) (m : ByteArray) (w : World) (hx : SlArg w A f.xs c) (h1 : (f.xs.length : Int) ≤ 60) (h : (100 : Int) < (m.size : Int)) :
    Calls Try.prog 9 #[.agg #[.int .i64 f.C, .slice A f.xs.length c, .int .i64 f.R, .int .i64 f.T], .int .i64 n, .string m] w fun e w' => e = .returned (.bool true) ∧ Below w.heap.size w w' := by
  have HL := Lib.hid (fun W => live15 W)
  clear hx
  go_enter Try.func9, Try.ntmps9
  go_wp2_with fail
  refine (HL.out _).mono ?_
  rintro e w1 ⟨rfl, hb1⟩
  have B1 := Lib.hid (Below.chain ((Below.refl _ _).alloc (Nat.le_refl _) _) hb1)
  clear hb1
  go_wp2
  go_ret
  exact ⟨rfl, B1.out⟩

set_option maxRecDepth 100000 in
set_option maxHeartbeats 2000000 in
theorem wsh_n1 (f : Fct) (A : Option Addr) (c : Nat) (n : Int) (m : ByteArray) (w : World) (hx : SlArg w A f.xs c) (h1 : (f.xs.length : Int) ≤ 60) (h2 : (m.size : Int) ≤ 100) (hn64 : -9223372036854775808 ≤ n ∧ n ≤ 9223372036854775807) (hok : f.ok = false) :
    Calls Try.prog 9 #[.agg #[.int .i64 f.C, .slice A f.xs.length c, .int .i64 f.R, .int .i64 f.T], .int .i64 n, .string m] w fun e w' => e = .returned (.bool true) ∧ Below w.heap.size w w' := by
  have HL := Lib.hid (fun W => live15 W)
  obtain ⟨S, hS⟩ : ∃ S : ByteArray, S = ⟨(encL f).toArray⟩ := ⟨_, rfl⟩
  have H1 := Lib.hid (fun W h => senc_agg f A c hS hok W h)
  obtain ⟨hn641, hn642⟩ := hn64
  have K0 := Lib.hid (((Keep.start w).more hx).alloc #[.int .i64 f.C, .slice A f.xs.length c, .int .i64 f.R, .int .i64 f.T] 31)
  clear hx hS hok
  go_enter Try.func9, Try.ntmps9
  go_wp2_with fail
  refine (H1.out _ (K0.out.arg (.head _))).mono ?_
  rintro e w1 ⟨rfl, hb⟩
  have K1 := Lib.hid (K0.out.call hb)
  clear hb
  go_wp2_with fail
  refine (HL.out _).mono ?_
  rintro e wl ⟨rfl, hbl⟩
  have BL := Lib.hid (Below.chain K1.out.below hbl)
  clear hbl
  go_wp2
  go_ret
  exact ⟨rfl, BL.out⟩

set_option maxRecDepth 100000 in
set_option maxHeartbeats 2000000 in
theorem wsh_n2 (f : Fct) (A : Option Addr) (c : Nat) (n : Int) (m : ByteArray) (w : World) (hx : SlArg w A f.xs c) (h1 : (f.xs.length : Int) ≤ 60) (h2 : (m.size : Int) ≤ 100) (hn64 : -9223372036854775808 ≤ n ∧ n ≤ 9223372036854775807) (hok : f.ok = true) (hn : n < 0) :
    Calls Try.prog 9 #[.agg #[.int .i64 f.C, .slice A f.xs.length c, .int .i64 f.R, .int .i64 f.T], .int .i64 n, .string m] w fun e w' => e = .returned (.bool true) ∧ Below w.heap.size w w' := by
  have HL := Lib.hid (fun W => live15 W)
  obtain ⟨S, hS⟩ : ∃ S : ByteArray, S = ⟨(encL f).toArray⟩ := ⟨_, rfl⟩
  have H1 := Lib.hid (fun W h => senc_agg f A c hS hok W h)
  obtain ⟨hn641, hn642⟩ := hn64
  have K0 := Lib.hid (((Keep.start w).more hx).alloc #[.int .i64 f.C, .slice A f.xs.length c, .int .i64 f.R, .int .i64 f.T] 31)
  clear hx hS hok
  go_enter Try.func9, Try.ntmps9
  go_wp2_with fail
  refine (H1.out _ (K0.out.arg (.head _))).mono ?_
  rintro e w1 ⟨rfl, hb⟩
  have K1 := Lib.hid (K0.out.call hb)
  clear hb
  go_wp2_with fail
  refine (HL.out _).mono ?_
  rintro e wl ⟨rfl, hbl⟩
  have BL := Lib.hid (Below.chain K1.out.below hbl)
  clear hbl
  go_wp2
  go_ret
  exact ⟨rfl, BL.out⟩

set_option maxRecDepth 100000 in
set_option maxHeartbeats 2000000 in
theorem wsh_n3 (f : Fct) (A : Option Addr) (c : Nat) (n : Int) (m : ByteArray) (w : World) (hx : SlArg w A f.xs c) (h1 : (f.xs.length : Int) ≤ 60) (h2 : (m.size : Int) ≤ 100) (hn64 : -9223372036854775808 ≤ n ∧ n ≤ 9223372036854775807) (hok : f.ok = true) (hn : 0 ≤ n) (hn2 : ((encL f).length : Int) ≤ n) :
    Calls Try.prog 9 #[.agg #[.int .i64 f.C, .slice A f.xs.length c, .int .i64 f.R, .int .i64 f.T], .int .i64 n, .string m] w fun e w' => e = .returned (.bool true) ∧ Below w.heap.size w w' := by
  have HL := Lib.hid (fun W => live15 W)
  obtain ⟨S, hS⟩ : ∃ S : ByteArray, S = ⟨(encL f).toArray⟩ := ⟨_, rfl⟩
  have H1 := Lib.hid (fun W h => senc_agg f A c hS hok W h)
  obtain ⟨hn641, hn642⟩ := hn64
  have K0 := Lib.hid (((Keep.start w).more hx).alloc #[.int .i64 f.C, .slice A f.xs.length c, .int .i64 f.R, .int .i64 f.T] 31)
  have hsz : S.size = (encL f).length := by rw [hS]; rfl
  have q3 : (S.size : Int) ≤ n := by omega
  clear hsz hn2
  clear hx hS hok
  go_enter Try.func9, Try.ntmps9
  go_wp2_with fail
  refine (H1.out _ (K0.out.arg (.head _))).mono ?_
  rintro e w1 ⟨rfl, hb⟩
  have K1 := Lib.hid (K0.out.call hb)
  clear hb
  go_wp2_with fail
  refine (HL.out _).mono ?_
  rintro e wl ⟨rfl, hbl⟩
  have BL := Lib.hid (Below.chain K1.out.below hbl)
  clear hbl
  go_wp2
  go_ret
  exact ⟨rfl, BL.out⟩

set_option maxRecDepth 100000 in
set_option maxHeartbeats 2000000 in
theorem wsh_y00 (f : Fct) (A : Option Addr) (c : Nat) (k : Nat) (m : ByteArray) (w : World) (hx : SlArg w A f.xs c) (h1 : (f.xs.length : Int) ≤ 60) (h2 : (m.size : Int) ≤ 100) (hok : f.ok = true) (hk : k < (encL f).length) (hc : k < 6) (hm : bl m = []) :
    Calls Try.prog 9 #[.agg #[.int .i64 f.C, .slice A f.xs.length c, .int .i64 f.R, .int .i64 f.T], .int .i64 (k : Int), .string m] w fun e w' => e = .returned (.bool true) ∧ Below w.heap.size w w' := by
  have HL := Lib.hid (fun W => live15 W)
  obtain ⟨S, hS⟩ : ∃ S : ByteArray, S = ⟨(encL f).toArray⟩ := ⟨_, rfl⟩
  have hbl : bl S = encL f := by rw [hS]; rfl
  have hsz : S.size = (encL f).length := by rw [← bl_len, hbl]
  have hl28 : f.xs.length ≤ 28 := (ok_len hok).2.2.2.2.2.2.2.1
  have hel := encL_len hok
  have e1 : decE (bl (S.extract 0 k)) = 9 := by rw [bl_take, hbl, dec_cut hok hk]; rw [if_pos hc]
  have e2 : decE (bl (S ++ m)) = 0 := by rw [bl_app, hbl, dec_more hok hx.reads.1]; rw [if_pos hm]
  have z1 : (S.extract 0 k).size ≤ 1000 := by rw [ByteArray.size_extract]; omega
  have z2 : (S ++ m).size ≤ 1000 := by rw [ByteArray.size_append]; omega
  obtain ⟨F, hF⟩ : ∃ F, decF (bl (S.extract 0 k)) = F := ⟨_, rfl⟩
  obtain ⟨G, hG⟩ : ∃ G, decF (bl (S ++ m)) = G := ⟨_, rfl⟩
  have H0 := Lib.hid (fun W h => senc_agg f A c hS hok W h)
  have H1 := Lib.hid (fun W => sdec_agg (S.extract 0 k) z1 hF e1 W)
  have H2 := Lib.hid (fun W => sdec_agg (S ++ m) z2 hG e2 W)
  have K0 := Lib.hid (((Keep.start w).more hx).alloc #[.int .i64 f.C, .slice A f.xs.length c, .int .i64 f.R, .int .i64 f.T] 31)
  have t3 : (k : Int) < (S.size : Int) := by omega
  have t4 : ¬ (S.size : Int) ≤ (k : Int) := by omega
  have t5 : S.size + m.size ≤ 9223372036854775807 := by omega
  have t6 : (k : Int) ≤ (S.size : Int) := by omega
  have t7 : ¬ (k : Int) < 0 := by omega
  have t8 : k ≤ S.size := by omega
  have t9 : S.size ≤ 1000 := by omega
  have t1 : decide ((k : Int) < 6) = true := decide_eq_true (by omega)
  have t2 : decide ((6 : Int) ≤ (k : Int)) = false := decide_eq_false (by omega)
  have q1 : m.toList = [] := by rw [toList_bl]; exact hm
  have q2 : m.toList.isEmpty = true := by rw [q1]; rfl
  clear hx hS hok hbl hsz hel e1 e2 z1 z2 hF hG hk hc hm 
  go_enter Try.func9, Try.ntmps9
  go_wp2_with fail
  refine (H0.out _ (K0.out.arg (.head _))).mono ?_
  rintro e w1 ⟨rfl, hb⟩
  have K1 := Lib.hid (K0.out.call hb)
  clear hb
  go_wp2_with fail
  refine (H1.out _).mono ?_
  rintro e w3 ⟨⟨A3, c3, rfl, hs3⟩, hb⟩
  have K3 := Lib.hid (((K1.out.call hb).more hs3).alloc #[.int .i64 F.C, .slice A3 F.xs.length c3, .int .i64 F.R, .int .i64 F.T] 31)
  clear hb hs3
  go_wp2_with fail
  refine (H2.out _).mono ?_
  rintro e w4 ⟨⟨A4, c4, rfl, hs4⟩, hb⟩
  have K4 := Lib.hid (((K3.out.call hb).more hs4).alloc #[.int .i64 G.C, .slice A4 G.xs.length c4, .int .i64 G.R, .int .i64 G.T] 31)
  clear hb hs4
  go_wp2_with fail
  refine (HL.out _).mono ?_
  rintro e wl ⟨rfl, hbl⟩
  have BL := Lib.hid (Below.chain K4.out.below hbl)
  clear hbl
  go_wp2
  go_ret
  exact ⟨rfl, BL.out⟩

set_option maxRecDepth 100000 in
set_option maxHeartbeats 2000000 in
theorem wsh_y01 (f : Fct) (A : Option Addr) (c : Nat) (k : Nat) (m : ByteArray) (w : World) (hx : SlArg w A f.xs c) (h1 : (f.xs.length : Int) ≤ 60) (h2 : (m.size : Int) ≤ 100) (hok : f.ok = true) (hk : k < (encL f).length) (hc : k < 6) (hm : bl m ≠ []) :
    Calls Try.prog 9 #[.agg #[.int .i64 f.C, .slice A f.xs.length c, .int .i64 f.R, .int .i64 f.T], .int .i64 (k : Int), .string m] w fun e w' => e = .returned (.bool true) ∧ Below w.heap.size w w' := by
  have HL := Lib.hid (fun W => live15 W)
  obtain ⟨S, hS⟩ : ∃ S : ByteArray, S = ⟨(encL f).toArray⟩ := ⟨_, rfl⟩
  have hbl : bl S = encL f := by rw [hS]; rfl
  have hsz : S.size = (encL f).length := by rw [← bl_len, hbl]
  have hl28 : f.xs.length ≤ 28 := (ok_len hok).2.2.2.2.2.2.2.1
  have hel := encL_len hok
  have e1 : decE (bl (S.extract 0 k)) = 9 := by rw [bl_take, hbl, dec_cut hok hk]; rw [if_pos hc]
  have e2 : decE (bl (S ++ m)) = 3 := by rw [bl_app, hbl, dec_more hok hx.reads.1]; rw [if_neg hm]
  have z1 : (S.extract 0 k).size ≤ 1000 := by rw [ByteArray.size_extract]; omega
  have z2 : (S ++ m).size ≤ 1000 := by rw [ByteArray.size_append]; omega
  obtain ⟨F, hF⟩ : ∃ F, decF (bl (S.extract 0 k)) = F := ⟨_, rfl⟩
  obtain ⟨G, hG⟩ : ∃ G, decF (bl (S ++ m)) = G := ⟨_, rfl⟩
  have H0 := Lib.hid (fun W h => senc_agg f A c hS hok W h)
  have H1 := Lib.hid (fun W => sdec_agg (S.extract 0 k) z1 hF e1 W)
  have H2 := Lib.hid (fun W => sdec_agg (S ++ m) z2 hG e2 W)
  have K0 := Lib.hid (((Keep.start w).more hx).alloc #[.int .i64 f.C, .slice A f.xs.length c, .int .i64 f.R, .int .i64 f.T] 31)
  have t3 : (k : Int) < (S.size : Int) := by omega
  have t4 : ¬ (S.size : Int) ≤ (k : Int) := by omega
  have t5 : S.size + m.size ≤ 9223372036854775807 := by omega
  have t6 : (k : Int) ≤ (S.size : Int) := by omega
  have t7 : ¬ (k : Int) < 0 := by omega
  have t8 : k ≤ S.size := by omega
  have t9 : S.size ≤ 1000 := by omega
  have t1 : decide ((k : Int) < 6) = true := decide_eq_true (by omega)
  have t2 : decide ((6 : Int) ≤ (k : Int)) = false := decide_eq_false (by omega)
  have q0 : m.toList ≠ [] := by rw [toList_bl]; exact hm
  have q2 : m.toList.isEmpty = false := by rw [List.isEmpty_eq_false_iff]; exact q0
  clear hx hS hok hbl hsz hel e1 e2 z1 z2 hF hG hk hc hm 
  go_enter Try.func9, Try.ntmps9
  go_wp2_with fail
  refine (H0.out _ (K0.out.arg (.head _))).mono ?_
  rintro e w1 ⟨rfl, hb⟩
  have K1 := Lib.hid (K0.out.call hb)
  clear hb
  go_wp2_with fail
  refine (H1.out _).mono ?_
  rintro e w3 ⟨⟨A3, c3, rfl, hs3⟩, hb⟩
  have K3 := Lib.hid (((K1.out.call hb).more hs3).alloc #[.int .i64 F.C, .slice A3 F.xs.length c3, .int .i64 F.R, .int .i64 F.T] 31)
  clear hb hs3
  go_wp2_with fail
  refine (H2.out _).mono ?_
  rintro e w4 ⟨⟨A4, c4, rfl, hs4⟩, hb⟩
  have K4 := Lib.hid (((K3.out.call hb).more hs4).alloc #[.int .i64 G.C, .slice A4 G.xs.length c4, .int .i64 G.R, .int .i64 G.T] 31)
  clear hb hs4
  go_wp2_with fail
  refine (HL.out _).mono ?_
  rintro e wl ⟨rfl, hbl⟩
  have BL := Lib.hid (Below.chain K4.out.below hbl)
  clear hbl
  go_wp2
  go_ret
  exact ⟨rfl, BL.out⟩

set_option maxRecDepth 100000 in
set_option maxHeartbeats 2000000 in
theorem wsh_y10 (f : Fct) (A : Option Addr) (c : Nat) (k : Nat) (m : ByteArray) (w : World) (hx : SlArg w A f.xs c) (h1 : (f.xs.length : Int) ≤ 60) (h2 : (m.size : Int) ≤ 100) (hok : f.ok = true) (hk : k < (encL f).length) (hc : 6 ≤ k) (hm : bl m = []) :
    Calls Try.prog 9 #[.agg #[.int .i64 f.C, .slice A f.xs.length c, .int .i64 f.R, .int .i64 f.T], .int .i64 (k : Int), .string m] w fun e w' => e = .returned (.bool true) ∧ Below w.heap.size w w' := by
  have HL := Lib.hid (fun W => live15 W)
  obtain ⟨S, hS⟩ : ∃ S : ByteArray, S = ⟨(encL f).toArray⟩ := ⟨_, rfl⟩
  have hbl : bl S = encL f := by rw [hS]; rfl
  have hsz : S.size = (encL f).length := by rw [← bl_len, hbl]
  have hl28 : f.xs.length ≤ 28 := (ok_len hok).2.2.2.2.2.2.2.1
  have hel := encL_len hok
  have e1 : decE (bl (S.extract 0 k)) = 3 := by rw [bl_take, hbl, dec_cut hok hk]; rw [if_neg (by omega)]
  have e2 : decE (bl (S ++ m)) = 0 := by rw [bl_app, hbl, dec_more hok hx.reads.1]; rw [if_pos hm]
  have z1 : (S.extract 0 k).size ≤ 1000 := by rw [ByteArray.size_extract]; omega
  have z2 : (S ++ m).size ≤ 1000 := by rw [ByteArray.size_append]; omega
  obtain ⟨F, hF⟩ : ∃ F, decF (bl (S.extract 0 k)) = F := ⟨_, rfl⟩
  obtain ⟨G, hG⟩ : ∃ G, decF (bl (S ++ m)) = G := ⟨_, rfl⟩
  have H0 := Lib.hid (fun W h => senc_agg f A c hS hok W h)
  have H1 := Lib.hid (fun W => sdec_agg (S.extract 0 k) z1 hF e1 W)
  have H2 := Lib.hid (fun W => sdec_agg (S ++ m) z2 hG e2 W)
  have K0 := Lib.hid (((Keep.start w).more hx).alloc #[.int .i64 f.C, .slice A f.xs.length c, .int .i64 f.R, .int .i64 f.T] 31)
  have t3 : (k : Int) < (S.size : Int) := by omega
  have t4 : ¬ (S.size : Int) ≤ (k : Int) := by omega
  have t5 : S.size + m.size ≤ 9223372036854775807 := by omega
  have t6 : (k : Int) ≤ (S.size : Int) := by omega
  have t7 : ¬ (k : Int) < 0 := by omega
  have t8 : k ≤ S.size := by omega
  have t9 : S.size ≤ 1000 := by omega
  have t1 : decide ((k : Int) < 6) = false := decide_eq_false (by omega)
  have t2 : decide ((6 : Int) ≤ (k : Int)) = true := decide_eq_true (by omega)
  have q1 : m.toList = [] := by rw [toList_bl]; exact hm
  have q2 : m.toList.isEmpty = true := by rw [q1]; rfl
  clear hx hS hok hbl hsz hel e1 e2 z1 z2 hF hG hk hc hm 
  go_enter Try.func9, Try.ntmps9
  go_wp2_with fail
  refine (H0.out _ (K0.out.arg (.head _))).mono ?_
  rintro e w1 ⟨rfl, hb⟩
  have K1 := Lib.hid (K0.out.call hb)
  clear hb
  go_wp2_with fail
  refine (H1.out _).mono ?_
  rintro e w3 ⟨⟨A3, c3, rfl, hs3⟩, hb⟩
  have K3 := Lib.hid (((K1.out.call hb).more hs3).alloc #[.int .i64 F.C, .slice A3 F.xs.length c3, .int .i64 F.R, .int .i64 F.T] 31)
  clear hb hs3
  go_wp2_with fail
  refine (H2.out _).mono ?_
  rintro e w4 ⟨⟨A4, c4, rfl, hs4⟩, hb⟩
  have K4 := Lib.hid (((K3.out.call hb).more hs4).alloc #[.int .i64 G.C, .slice A4 G.xs.length c4, .int .i64 G.R, .int .i64 G.T] 31)
  clear hb hs4
  go_wp2_with fail
  refine (HL.out _).mono ?_
  rintro e wl ⟨rfl, hbl⟩
  have BL := Lib.hid (Below.chain K4.out.below hbl)
  clear hbl
  go_wp2
  go_ret
  exact ⟨rfl, BL.out⟩

set_option maxRecDepth 100000 in
set_option maxHeartbeats 2000000 in
theorem wsh_y11 (f : Fct) (A : Option Addr) (c : Nat) (k : Nat) (m : ByteArray) (w : World) (hx : SlArg w A f.xs c) (h1 : (f.xs.length : Int) ≤ 60) (h2 : (m.size : Int) ≤ 100) (hok : f.ok = true) (hk : k < (encL f).length) (hc : 6 ≤ k) (hm : bl m ≠ []) :
    Calls Try.prog 9 #[.agg #[.int .i64 f.C, .slice A f.xs.length c, .int .i64 f.R, .int .i64 f.T], .int .i64 (k : Int), .string m] w fun e w' => e = .returned (.bool true) ∧ Below w.heap.size w w' := by
  have HL := Lib.hid (fun W => live15 W)
  obtain ⟨S, hS⟩ : ∃ S : ByteArray, S = ⟨(encL f).toArray⟩ := ⟨_, rfl⟩
  have hbl : bl S = encL f := by rw [hS]; rfl
  have hsz : S.size = (encL f).length := by rw [← bl_len, hbl]
  have hl28 : f.xs.length ≤ 28 := (ok_len hok).2.2.2.2.2.2.2.1
  have hel := encL_len hok
  have e1 : decE (bl (S.extract 0 k)) = 3 := by rw [bl_take, hbl, dec_cut hok hk]; rw [if_neg (by omega)]
  have e2 : decE (bl (S ++ m)) = 3 := by rw [bl_app, hbl, dec_more hok hx.reads.1]; rw [if_neg hm]
  have z1 : (S.extract 0 k).size ≤ 1000 := by rw [ByteArray.size_extract]; omega
  have z2 : (S ++ m).size ≤ 1000 := by rw [ByteArray.size_append]; omega
  obtain ⟨F, hF⟩ : ∃ F, decF (bl (S.extract 0 k)) = F := ⟨_, rfl⟩
  obtain ⟨G, hG⟩ : ∃ G, decF (bl (S ++ m)) = G := ⟨_, rfl⟩
  have H0 := Lib.hid (fun W h => senc_agg f A c hS hok W h)
  have H1 := Lib.hid (fun W => sdec_agg (S.extract 0 k) z1 hF e1 W)
  have H2 := Lib.hid (fun W => sdec_agg (S ++ m) z2 hG e2 W)
  have K0 := Lib.hid (((Keep.start w).more hx).alloc #[.int .i64 f.C, .slice A f.xs.length c, .int .i64 f.R, .int .i64 f.T] 31)
  have t3 : (k : Int) < (S.size : Int) := by omega
  have t4 : ¬ (S.size : Int) ≤ (k : Int) := by omega
  have t5 : S.size + m.size ≤ 9223372036854775807 := by omega
  have t6 : (k : Int) ≤ (S.size : Int) := by omega
  have t7 : ¬ (k : Int) < 0 := by omega
  have t8 : k ≤ S.size := by omega
  have t9 : S.size ≤ 1000 := by omega
  have t1 : decide ((k : Int) < 6) = false := decide_eq_false (by omega)
  have t2 : decide ((6 : Int) ≤ (k : Int)) = true := decide_eq_true (by omega)
  have q0 : m.toList ≠ [] := by rw [toList_bl]; exact hm
  have q2 : m.toList.isEmpty = false := by rw [List.isEmpty_eq_false_iff]; exact q0
  clear hx hS hok hbl hsz hel e1 e2 z1 z2 hF hG hk hc hm 
  go_enter Try.func9, Try.ntmps9
  go_wp2_with fail
  refine (H0.out _ (K0.out.arg (.head _))).mono ?_
  rintro e w1 ⟨rfl, hb⟩
  have K1 := Lib.hid (K0.out.call hb)
  clear hb
  go_wp2_with fail
  refine (H1.out _).mono ?_
  rintro e w3 ⟨⟨A3, c3, rfl, hs3⟩, hb⟩
  have K3 := Lib.hid (((K1.out.call hb).more hs3).alloc #[.int .i64 F.C, .slice A3 F.xs.length c3, .int .i64 F.R, .int .i64 F.T] 31)
  clear hb hs3
  go_wp2_with fail
  refine (H2.out _).mono ?_
  rintro e w4 ⟨⟨A4, c4, rfl, hs4⟩, hb⟩
  have K4 := Lib.hid (((K3.out.call hb).more hs4).alloc #[.int .i64 G.C, .slice A4 G.xs.length c4, .int .i64 G.R, .int .i64 G.T] 31)
  clear hb hs4
  go_wp2_with fail
  refine (HL.out _).mono ?_
  rintro e wl ⟨rfl, hbl⟩
  have BL := Lib.hid (Below.chain K4.out.below hbl)
  clear hbl
  go_wp2
  go_ret
  exact ⟨rfl, BL.out⟩

theorem wsh (f : Fct) (A : Option Addr) (c : Nat) (n : Int) (m : ByteArray) (w : World) (hx : SlArg w A f.xs c) (hn : -9223372036854775808 ≤ n ∧ n ≤ 9223372036854775807) (hm : m.size ≤ maxLen) :
    Calls Try.prog 9 #[facV f.C A f.xs.length c f.R f.T, .int .i64 n, .string m] w fun e w' => e = .returned (.bool true) ∧ Below w.heap.size w w' := by
  by_cases h : (60 : Int) < (f.xs.length : Int)
  · exact wsh_l1 f A c n m w hx h
  · by_cases h2 : (100 : Int) < (m.size : Int)
    · exact wsh_l2 f A c n m w hx (by omega) h2
    · cases hok : f.ok
      · exact wsh_n1 f A c n m w hx (by omega) (by omega) hn hok
      · by_cases h3 : n < 0
        · exact wsh_n2 f A c n m w hx (by omega) (by omega) hn hok h3
        · by_cases h4 : ((encL f).length : Int) ≤ n
          · exact wsh_n3 f A c n m w hx (by omega) (by omega) hn hok (by omega) h4
          · obtain ⟨k, rfl⟩ : ∃ k : Nat, n = k := ⟨n.toNat, by omega⟩
            by_cases hc : k < 6
            · by_cases he : bl m = []
              · exact wsh_y00 f A c k m w hx (by omega) (by omega) hok (by omega) hc he
              · exact wsh_y01 f A c k m w hx (by omega) (by omega) hok (by omega) hc he
            · by_cases he : bl m = []
              · exact wsh_y10 f A c k m w hx (by omega) (by omega) hok (by omega) (by omega) he
              · exact wsh_y11 f A c k m w hx (by omega) (by omega) hok (by omega) (by omega) he

end Go.Proofs.Ytghoephmihogeaa
