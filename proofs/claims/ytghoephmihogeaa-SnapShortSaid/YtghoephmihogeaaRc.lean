/- Walks of the laws SnapTells, SnapBack, SnapOne, SnapUnlike, SnapShort. -/
import Derived.Test.YtghoephmihogeaaRb
set_option linter.unusedVariables false
namespace Go.Proofs.Ytghoephmihogeaa
open Go.RowKit Go.Shelf Lev

theorem sdec_agg (s : ByteArray) (hs : s.size ≤ 1000) {F : Fct} {E : Int} (hF : decF (bl s) = F) (hE : decE (bl s) = E) (w : World) :
    Calls Try.prog 18 #[.string s] w fun e w' => (∃ (A : Option Addr) (c : Nat), e = .returned (.tuple #[.agg #[.int .i64 F.C, .slice A F.xs.length c, .int .i64 F.R, .int .i64 F.T], .int .i64 E]) ∧ SlArg w' A F.xs c) ∧ Below w.heap.size w w' := by
  subst hF; subst hE; exact sdecode_any s hs w
theorem rdec_agg (s : ByteArray) (hs : s.size ≤ 1000) {F : Fct} {E : Int} (hF : decF (bl s) = F) (hE : decE (bl s) = E) (w : World) :
    Calls Try.prog 19 #[.string s] w fun e w' => (∃ (A : Option Addr) (c : Nat), e = .returned (.tuple #[.agg #[.int .i64 F.C, .slice A F.xs.length c, .int .i64 F.R, .int .i64 F.T], .int .i64 E]) ∧ SlArg w' A F.xs c) ∧ Below w.heap.size w w' := by
  subst hF; subst hE; exact rdecode_any s hs w
theorem senc_agg (f : Fct) (A : Option Addr) (c : Nat) {S : ByteArray} {b : Bool} (hS : S = ⟨(encL f).toArray⟩) (hb : f.ok = b) (w : World) (hx : SlArg w A f.xs c) :
    Calls Try.prog 16 #[.agg #[.int .i64 f.C, .slice A f.xs.length c, .int .i64 f.R, .int .i64 f.T]] w fun e w' => e = .returned (.tuple #[.string S, .bool b]) ∧ Below w.heap.size w w' := by
  subst hS; subst hb; exact sencode_any f A c w hx
theorem renc_agg (f : Fct) (A : Option Addr) (c : Nat) {S : ByteArray} {b : Bool} (hS : S = ⟨(encL f).toArray⟩) (hb : f.ok = b) (w : World) (hx : SlArg w A f.xs c) :
    Calls Try.prog 17 #[.agg #[.int .i64 f.C, .slice A f.xs.length c, .int .i64 f.R, .int .i64 f.T]] w fun e w' => e = .returned (.tuple #[.string S, .bool b]) ∧ Below w.heap.size w w' := by
  subst hS; subst hb; exact rencode_any f A c w hx
theorem chk_agg (f : Fct) (A : Option Addr) (c : Nat) {b : Bool} (hb : f.ok = b) (w : World) (hx : SlArg w A f.xs c) :
    Calls Try.prog 22 #[.agg #[.int .i64 f.C, .slice A f.xs.length c, .int .i64 f.R, .int .i64 f.T]] w fun e w' => e = .returned (.bool b) ∧ Below w.heap.size w w' := by
  subst hb; exact check_any f.C A f.xs c f.R f.T w hx
theorem same_agg (f : Fct) (A A2 : Option Addr) (c c2 : Nat) (w : World) (h : SlArg w A f.xs c) (h2 : SlArg w A2 f.xs c2) :
    Calls Try.prog 20 #[.agg #[.int .i64 f.C, .slice A f.xs.length c, .int .i64 f.R, .int .i64 f.T], .agg #[.int .i64 f.C, .slice A2 f.xs.length c2, .int .i64 f.R, .int .i64 f.T]] w fun e w' => e = .returned (.bool true) ∧ Below w.heap.size w w' := fac_same f A A2 c c2 w h h2
theorem unlike_agg (F G : Fct) (A A2 : Option Addr) (c c2 : Nat) (w : World) (h : SlArg w A F.xs c) (h2 : SlArg w A2 G.xs c2) (hF : F.ok = true) (hG : G.ok = true) (hne : F ≠ G) :
    Calls Try.prog 20 #[.agg #[.int .i64 F.C, .slice A F.xs.length c, .int .i64 F.R, .int .i64 F.T], .agg #[.int .i64 G.C, .slice A2 G.xs.length c2, .int .i64 G.R, .int .i64 G.T]] w fun e w' => e = .returned (.bool false) ∧ Below w.heap.size w w' := fac_no F G A A2 c c2 w h h2 hF hG hne
theorem bl_back (s : ByteArray) : (⟨(bl s).toArray⟩ : ByteArray) = s := by unfold bl; cases s; simp

set_option maxRecDepth 100000 in
set_option maxHeartbeats 2000000 in
theorem wtells_l1 (f : Fct) (A : Option Addr) (c : Nat) (s : ByteArray) (w : World) (hx : SlArg w A f.xs c) (h : (60 : Int) < (f.xs.length : Int)) :
    Calls Try.prog 4 #[.agg #[.int .i64 f.C, .slice A f.xs.length c, .int .i64 f.R, .int .i64 f.T], .string s] w fun e w' => e = .returned (.bool true) ∧ Below w.heap.size w w' := by
  have HL := Lib.hid (fun W => live15 W)
  clear hx
  go_enter Try.func4, Try.ntmps4
  go_wp2_with fail
  refine (HL.out _).mono ?_
  rintro e w1 ⟨rfl, hb1⟩
  have B1 := Lib.hid (Below.chain ((Below.refl _ _).alloc (Nat.le_refl _) _) hb1)
  clear hb1
  go_wp2
  go_ret
  exact ⟨rfl, B1.out⟩

set_option maxRecDepth 100000 in
set_option maxHeartbeats 2000000 in
theorem wtells_l2 (f : Fct) (A : Option Addr) (c : Nat) (s : ByteArray) (w : World) (hx : SlArg w A f.xs c) (h1 : (f.xs.length : Int) ≤ 60) (h : (400 : Int) < (s.size : Int)) :
    Calls Try.prog 4 #[.agg #[.int .i64 f.C, .slice A f.xs.length c, .int .i64 f.R, .int .i64 f.T], .string s] w fun e w' => e = .returned (.bool true) ∧ Below w.heap.size w w' := by
  have HL := Lib.hid (fun W => live15 W)
  clear hx
  go_enter Try.func4, Try.ntmps4
  go_wp2_with fail
  refine (HL.out _).mono ?_
  rintro e w1 ⟨rfl, hb1⟩
  have B1 := Lib.hid (Below.chain ((Below.refl _ _).alloc (Nat.le_refl _) _) hb1)
  clear hb1
  go_wp2
  go_ret
  exact ⟨rfl, B1.out⟩

set_option maxRecDepth 100000 in
set_option maxHeartbeats 2000000 in
theorem wtells_in (f : Fct) (A : Option Addr) (c : Nat) (s : ByteArray) (w : World) (hx : SlArg w A f.xs c) (h1 : (f.xs.length : Int) ≤ 60) (h2 : (s.size : Int) ≤ 400) :
    Calls Try.prog 4 #[.agg #[.int .i64 f.C, .slice A f.xs.length c, .int .i64 f.R, .int .i64 f.T], .string s] w fun e w' => e = .returned (.bool true) ∧ Below w.heap.size w w' := by
  have HL := Lib.hid (fun W => live15 W)
  obtain ⟨S, hS⟩ : ∃ S : ByteArray, S = ⟨(encL f).toArray⟩ := ⟨_, rfl⟩
  obtain ⟨F, hF⟩ : ∃ F, decF (bl s) = F := ⟨_, rfl⟩
  obtain ⟨E, hE⟩ : ∃ E, decE (bl s) = E := ⟨_, rfl⟩
  obtain ⟨b, hb⟩ : ∃ b, f.ok = b := ⟨_, rfl⟩
  have H1 := Lib.hid (fun W h => senc_agg f A c hS hb W h)
  have H2 := Lib.hid (fun W h => renc_agg f A c hS hb W h)
  have H3 := Lib.hid (fun W => sdec_agg s (by omega) hF hE W)
  have H4 := Lib.hid (fun W => rdec_agg s (by omega) hF hE W)
  clear hS hF hE hb
  have K0 := Lib.hid (((Keep.start w).more hx).alloc #[.int .i64 f.C, .slice A f.xs.length c, .int .i64 f.R, .int .i64 f.T] 31)
  have HX := Lib.hid hx
  clear hx
  go_enter Try.func4, Try.ntmps4
  go_wp2_with fail
  refine (H1.out _ (K0.out.arg (.head _))).mono ?_
  rintro e w1 ⟨rfl, hb⟩
  have K1 := Lib.hid (K0.out.call hb)
  clear hb
  obtain ⟨a0, a1, a2, a3⟩ := (K1.out.box (.head _)).c4
  go_wp2_with fail
  refine (H2.out _ (K1.out.arg (.head _))).mono ?_
  rintro e w2 ⟨rfl, hb⟩
  have K2 := Lib.hid (K1.out.call hb)
  clear hb a0 a1 a2 a3
  go_wp2_with fail
  refine (H3.out _).mono ?_
  rintro e w3 ⟨⟨A3, c3, rfl, hs3⟩, hb⟩
  have K3 := Lib.hid (((K2.out.call hb).more hs3).alloc #[.int .i64 F.C, .slice A3 F.xs.length c3, .int .i64 F.R, .int .i64 F.T] 31)
  clear hb hs3
  go_wp2_with fail
  refine (H4.out _).mono ?_
  rintro e w4 ⟨⟨A4, c4, rfl, hs4⟩, hb⟩
  have K4 := Lib.hid (((K3.out.call hb).more hs4).alloc #[.int .i64 F.C, .slice A4 F.xs.length c4, .int .i64 F.R, .int .i64 F.T] 31)
  have K4b := Lib.hid (K3.out.call hb)
  have hsm := same_agg F A3 A4 c3 c4 _ (K4.out.arg (.tail _ (.head _))) (K4.out.arg (.head _))
  have HSM := Lib.hid hsm
  obtain ⟨a0, a1, a2, a3⟩ := (K4b.out.box (.head _)).c4
  have hz := (K4b.out.box (.head _)).lt
  clear hb hs4 hsm
  go_wp2_with fail
  refine HSM.out.mono ?_
  rintro e w5 ⟨rfl, hb⟩
  have K5 := Lib.hid (K4.out.call hb)
  clear hb a0 a1 a2 a3
  go_wp2_with fail
  refine (HL.out _).mono ?_
  rintro e wl ⟨rfl, hbl⟩
  have BL := Lib.hid (Below.chain K5.out.below hbl)
  clear hbl
  go_wp2
  go_ret
  exact ⟨rfl, BL.out⟩

theorem wtells (f : Fct) (A : Option Addr) (c : Nat) (s : ByteArray) (w : World) (hx : SlArg w A f.xs c) (hs : s.size ≤ maxLen) :
    Calls Try.prog 4 #[facV f.C A f.xs.length c f.R f.T, .string s] w fun e w' => e = .returned (.bool true) ∧ Below w.heap.size w w' := by
  by_cases h : (60 : Int) < (f.xs.length : Int)
  · exact wtells_l1 f A c s w hx h
  · by_cases h2 : (400 : Int) < (s.size : Int)
    · exact wtells_l2 f A c s w hx (by omega) h2
    · exact wtells_in f A c s w hx (by omega) (by omega)

set_option maxRecDepth 100000 in
set_option maxHeartbeats 2000000 in
theorem wbk_l (f : Fct) (A : Option Addr) (c : Nat) (w : World) (hx : SlArg w A f.xs c) (h : (60 : Int) < (f.xs.length : Int)) :
    Calls Try.prog 6 #[.agg #[.int .i64 f.C, .slice A f.xs.length c, .int .i64 f.R, .int .i64 f.T]] w fun e w' => e = .returned (.bool true) ∧ Below w.heap.size w w' := by
  have HL := Lib.hid (fun W => live15 W)
  clear hx
  go_enter Try.func6, Try.ntmps6
  go_wp2_with fail
  refine (HL.out _).mono ?_
  rintro e w1 ⟨rfl, hb1⟩
  have B1 := Lib.hid (Below.chain ((Below.refl _ _).alloc (Nat.le_refl _) _) hb1)
  clear hb1
  go_wp2
  go_ret
  exact ⟨rfl, B1.out⟩

set_option maxRecDepth 100000 in
set_option maxHeartbeats 2000000 in
theorem wbk_no (f : Fct) (A : Option Addr) (c : Nat) (w : World) (hx : SlArg w A f.xs c) (h1 : (f.xs.length : Int) ≤ 60) (hok : f.ok = false) :
    Calls Try.prog 6 #[.agg #[.int .i64 f.C, .slice A f.xs.length c, .int .i64 f.R, .int .i64 f.T]] w fun e w' => e = .returned (.bool true) ∧ Below w.heap.size w w' := by
  have HL := Lib.hid (fun W => live15 W)
  have hS : (⟨#[]⟩ : ByteArray) = ⟨(encL f).toArray⟩ := by unfold encL; rw [if_neg (by rw [hok]; decide)]
  have H1 := Lib.hid (fun W h => senc_agg f A c hS hok W h)
  have H2 := Lib.hid (fun W h => chk_agg f A c hok W h)
  have K0 := Lib.hid (((Keep.start w).more hx).alloc #[.int .i64 f.C, .slice A f.xs.length c, .int .i64 f.R, .int .i64 f.T] 31)
  clear hx hS hok
  go_enter Try.func6, Try.ntmps6
  go_wp2_with fail
  refine (H1.out _ (K0.out.arg (.head _))).mono ?_
  rintro e w1 ⟨rfl, hb⟩
  have K1 := Lib.hid (K0.out.call hb)
  clear hb
  obtain ⟨a0, a1, a2, a3⟩ := (K1.out.box (.head _)).c4
  go_wp2_with fail
  refine (H2.out _ (K1.out.arg (.head _))).mono ?_
  rintro e w2 ⟨rfl, hb⟩
  have K2 := Lib.hid (K1.out.call hb)
  clear hb a0 a1 a2 a3
  go_wp2_with fail
  refine (HL.out _).mono ?_
  rintro e wl ⟨rfl, hbl⟩
  have BL := Lib.hid (Below.chain K2.out.below hbl)
  clear hbl
  go_wp2
  go_ret
  exact ⟨rfl, BL.out⟩

set_option maxRecDepth 100000 in
set_option maxHeartbeats 2000000 in
theorem wbk_yes (f : Fct) (A : Option Addr) (c : Nat) (w : World) (hx : SlArg w A f.xs c) (h1 : (f.xs.length : Int) ≤ 60) (hok : f.ok = true) :
    Calls Try.prog 6 #[.agg #[.int .i64 f.C, .slice A f.xs.length c, .int .i64 f.R, .int .i64 f.T]] w fun e w' => e = .returned (.bool true) ∧ Below w.heap.size w w' := by
  have HL := Lib.hid (fun W => live15 W)
  obtain ⟨S, hS⟩ : ∃ S : ByteArray, S = ⟨(encL f).toArray⟩ := ⟨_, rfl⟩
  obtain ⟨hd1, hd2⟩ := dec_enc hok hx.reads.1
  have hbl : bl S = encL f := by rw [hS]; rfl
  have hsz : S.size = 6 + 8 * f.xs.length := by rw [← bl_len, hbl, encL_len hok]
  have hl28 : f.xs.length ≤ 28 := (ok_len hok).2.2.2.2.2.2.2.1
  have H1 := Lib.hid (fun W h => senc_agg f A c hS hok W h)
  have H2 := Lib.hid (fun W h => chk_agg f A c hok W h)
  have H3 := Lib.hid (fun W => sdec_agg S (by omega) (F := f) (E := 0) (by rw [hbl]; exact hd2) (by rw [hbl]; exact hd1) W)
  have hs4 := fun W => size_any f.C W
  rw [ok_size hok] at hs4
  have H4 := Lib.hid hs4
  have hq : ((S.size : Int) == 6 + 8 * (f.xs.length : Int)) = true := by rw [beq_iff_eq]; omega
  have K0 := Lib.hid (((Keep.start w).more hx).alloc #[.int .i64 f.C, .slice A f.xs.length c, .int .i64 f.R, .int .i64 f.T] 31)
  clear hx hS hok hbl hsz hs4 hd1 hd2
  go_enter Try.func6, Try.ntmps6
  go_wp2_with fail
  refine (H1.out _ (K0.out.arg (.head _))).mono ?_
  rintro e w1 ⟨rfl, hb⟩
  have K1 := Lib.hid (K0.out.call hb)
  clear hb
  go_wp2_with fail
  refine (H3.out _).mono ?_
  rintro e w3 ⟨⟨A3, c3, rfl, hs3⟩, hb⟩
  have K2 := Lib.hid (K1.out.call hb)
  obtain ⟨a0, a1, a2, a3⟩ := (K2.out.box (.head _)).c4
  have hz := (K2.out.box (.head _)).lt
  have K3 := Lib.hid ((K2.out.more hs3).alloc #[.int .i64 f.C, .slice A3 f.xs.length c3, .int .i64 f.R, .int .i64 f.T] 31)
  clear hb hs3
  go_wp2_with fail
  refine (H2.out _ (K3.out.arg (.tail _ (.head _)))).mono ?_
  rintro e w4 ⟨rfl, hb⟩
  have K4 := Lib.hid (K3.out.call hb)
  clear hb a0 a1 a2 a3 hz
  obtain ⟨a0, a1, a2, a3⟩ := (K4.out.box (.tail _ (.head _))).c4
  obtain ⟨b0, b1, b2, b3⟩ := (K4.out.box (.head _)).c4
  have hsm := same_agg f A A3 c c3 _ (K4.out.arg (.tail _ (.head _))) (K4.out.arg (.head _))
  have HSM := Lib.hid hsm
  clear hsm
  go_wp2_with fail
  refine HSM.out.mono ?_
  rintro e w5 ⟨rfl, hb⟩
  have K5 := Lib.hid (K4.out.call hb)
  clear hb a0 a1 a2 a3 b0 b1 b2 b3
  obtain ⟨a0, a1, a2, a3⟩ := (K5.out.box (.tail _ (.head _))).c4
  go_wp2_with fail
  refine (H4.out _).mono ?_
  rintro e w' ⟨rfl, rfl⟩
  go_wp2_with fail
  refine (HL.out _).mono ?_
  rintro e wl ⟨rfl, hbl⟩
  have BL := Lib.hid (Below.chain K5.out.below hbl)
  clear hbl
  go_wp2
  go_ret
  exact ⟨rfl, BL.out⟩

theorem wbk (f : Fct) (A : Option Addr) (c : Nat) (w : World) (hx : SlArg w A f.xs c) :
    Calls Try.prog 6 #[facV f.C A f.xs.length c f.R f.T] w fun e w' => e = .returned (.bool true) ∧ Below w.heap.size w w' := by
  by_cases h : (60 : Int) < (f.xs.length : Int)
  · exact wbk_l f A c w hx h
  · cases hok : f.ok
    · exact wbk_no f A c w hx (by omega) hok
    · exact wbk_yes f A c w hx (by omega) hok

set_option maxRecDepth 100000 in
set_option maxHeartbeats 2000000 in
theorem wone_l (s : ByteArray) (w : World) (h : (400 : Int) < (s.size : Int)) :
    Calls Try.prog 7 #[.string s] w fun e w' => e = .returned (.bool true) ∧ Below w.heap.size w w' := by
  have HL := Lib.hid (fun W => live15 W)
  go_enter Try.func7, Try.ntmps7
  go_wp2_with fail
  refine (HL.out _).mono ?_
  rintro e w1 ⟨rfl, hb1⟩
  have B1 := Lib.hid (hb1)
  clear hb1
  go_wp2
  go_ret
  exact ⟨rfl, B1.out⟩

set_option maxRecDepth 100000 in
set_option maxHeartbeats 2000000 in
theorem wone_no (s : ByteArray) (w : World) (h2 : (s.size : Int) ≤ 400) (hE : decE (bl s) ≠ 0) :
    Calls Try.prog 7 #[.string s] w fun e w' => e = .returned (.bool true) ∧ Below w.heap.size w w' := by
  have HL := Lib.hid (fun W => live15 W)
  have hF : decF (bl s) = Fct.zero := decF_no hE
  have hv := decE_vals (bl s)
  obtain ⟨E, hE2⟩ : ∃ E, decE (bl s) = E := ⟨_, rfl⟩
  rw [hE2] at hv hE
  have H3 := Lib.hid (fun W => sdec_agg s (by omega) hF hE2 W)
  have K0 := Lib.hid (Keep.start w)
  clear hF hE2
  rcases hv with hv | hv | hv | hv
  · exact absurd hv hE
  all_goals
    subst hv
    clear hE
    go_enter Try.func7, Try.ntmps7
    go_wp2_with fail
    refine (H3.out _).mono ?_
    rintro e w3 ⟨⟨A3, c3, rfl, hs3⟩, hb⟩
    have K2 := Lib.hid (((K0.out.call hb).more hs3).alloc #[.int .i64 Fct.zero.C, .slice A3 Fct.zero.xs.length c3, .int .i64 Fct.zero.R, .int .i64 Fct.zero.T] 31)
    clear hb hs3
    have hsm := same_agg Fct.zero A3 none c3 0 _ (K2.out.arg (.head _)) ⟨FlR.nil _ _ _, by decide, by decide⟩
    have HSM := Lib.hid hsm
    clear hsm
    go_wp2_with fail
    refine HSM.out.mono ?_
    rintro e w5 ⟨rfl, hb⟩
    have K5 := Lib.hid (K2.out.call hb)
    clear hb
    go_wp2_with fail
    refine (HL.out _).mono ?_
    rintro e wl ⟨rfl, hbl⟩
    have BL := Lib.hid (Below.chain K5.out.below hbl)
    clear hbl
    go_wp2
    go_ret
    exact ⟨rfl, BL.out⟩
  
set_option maxRecDepth 100000 in
set_option maxHeartbeats 2000000 in
theorem wone_yes (s : ByteArray) (w : World) (h2 : (s.size : Int) ≤ 400) (hE : decE (bl s) = 0) :
    Calls Try.prog 7 #[.string s] w fun e w' => e = .returned (.bool true) ∧ Below w.heap.size w w' := by
  have HL := Lib.hid (fun W => live15 W)
  obtain ⟨F, hF⟩ : ∃ F, decF (bl s) = F := ⟨_, rfl⟩
  obtain ⟨hok, henc⟩ := enc_dec hE
  rw [hF] at hok henc
  have hS : s = ⟨(encL F).toArray⟩ := by rw [henc, bl_back]
  have H3 := Lib.hid (fun W => sdec_agg s (by omega) hF hE W)
  have H1 := Lib.hid (fun W A c h => senc_agg F A c hS hok W h)
  have H2 := Lib.hid (fun W A c h => chk_agg F A c hok W h)
  have K0 := Lib.hid (Keep.start w)
  clear hF hE hok henc hS
  go_enter Try.func7, Try.ntmps7
  go_wp2_with fail
  refine (H3.out _).mono ?_
  rintro e w3 ⟨⟨A3, c3, rfl, hs3⟩, hb⟩
  have K2 := Lib.hid (((K0.out.call hb).more hs3).alloc #[.int .i64 F.C, .slice A3 F.xs.length c3, .int .i64 F.R, .int .i64 F.T] 31)
  clear hb hs3
  go_wp2_with fail
  refine (H1.out _ _ _ (K2.out.arg (.head _))).mono ?_
  rintro e w4 ⟨rfl, hb⟩
  have K4 := Lib.hid (K2.out.call hb)
  clear hb
  obtain ⟨a0, a1, a2, a3⟩ := (K4.out.box (.head _)).c4
  go_wp2_with fail
  refine (H2.out _ _ _ (K4.out.arg (.head _))).mono ?_
  rintro e w5 ⟨rfl, hb⟩
  have K5 := Lib.hid (K4.out.call hb)
  clear hb a0 a1 a2 a3
  go_wp2_with fail
  refine (HL.out _).mono ?_
  rintro e wl ⟨rfl, hbl⟩
  have BL := Lib.hid (Below.chain K5.out.below hbl)
  clear hbl
  go_wp2
  go_ret
  exact ⟨rfl, BL.out⟩

theorem wone (s : ByteArray) (w : World) (hs : s.size ≤ maxLen) :
    Calls Try.prog 7 #[.string s] w fun e w' => e = .returned (.bool true) ∧ Below w.heap.size w w' := by
  by_cases h : (400 : Int) < (s.size : Int)
  · exact wone_l s w h
  · by_cases hE : decE (bl s) = 0
    · exact wone_yes s w (by omega) hE
    · exact wone_no s w (by omega) hE

end Go.Proofs.Ytghoephmihogeaa
