/- live of layer 12. -/
import Derived.Test.YtdpmpfbbfknlmaaDh9
namespace Go.Proofs.Ytdpmpfbbfknlmaa
open Go.RowKit Go.Shelf Lev

def fL : Fct := ⟨1, [4613937818241073152, 13830554455654793216, 4611686018427387904], 2, 4⟩
def gL : Fct := ⟨1, [4609434218613702656, 13826050856027422720, 4607182418800017408], 2, 5⟩
def kL : Fct := ⟨1, [4604930618986332160, 13821547256400052224, 4602678819172646912], 2, 6⟩
theorem lv1 : oftenE fL 4602678819172646912 1 = 0 := by decide +kernel
theorem lv2 : oftenF fL 4602678819172646912 1 = gL := by
  have h : (oftenF fL 4602678819172646912 1).xs = gL.xs ∧ (oftenF fL 4602678819172646912 1).C = 1 ∧ (oftenF fL 4602678819172646912 1).R = 2 ∧ (oftenF fL 4602678819172646912 1).T = 5 := by decide +kernel
  obtain ⟨h1, h2, h3, h4⟩ := h
  cases hx : oftenF fL 4602678819172646912 1
  rw [hx] at h1 h2 h3 h4
  simp only at h1 h2 h3 h4
  subst h1 h2 h3 h4; rfl
theorem lv3 : oftenE fL 4609434218613702656 1 = 12 := by decide +kernel
theorem lv4 : oftenE Fct.zero 4607182418800017408 1 = 1 := by decide +kernel
theorem lv5 : oftenE fL 4602678819172646912 2 = 0 := by decide +kernel
theorem lv6 : oftenF fL 4602678819172646912 2 = kL := by
  have h : (oftenF fL 4602678819172646912 2).xs = kL.xs ∧ (oftenF fL 4602678819172646912 2).C = 1 ∧ (oftenF fL 4602678819172646912 2).R = 2 ∧ (oftenF fL 4602678819172646912 2).T = 6 := by decide +kernel
  obtain ⟨h1, h2, h3, h4⟩ := h
  cases hx : oftenF fL 4602678819172646912 2
  rw [hx] at h1 h2 h3 h4
  simp only at h1 h2 h3 h4
  subst h1 h2 h3 h4; rfl
theorem lv7 : oftenE fL 4602678819172646912 5000 = 6 := by decide +kernel
theorem lv8 : oftenE gL 0 1 = 12 := by decide +kernel
theorem lz1 : oftenF fL 4609434218613702656 1 = Fct.zero := if_neg (by rw [lv3]; decide)
theorem lz2 : oftenF Fct.zero 4607182418800017408 1 = Fct.zero := if_neg (by rw [lv4]; decide)
theorem lz3 : oftenF fL 4602678819172646912 5000 = Fct.zero := if_neg (by rw [lv7]; decide)
theorem lv9 : allS fL [4602678819172646912, 0] = (gL, 12, 1) := by
  unfold allS
  rw [if_neg (by decide +kernel), allG, if_pos lv1, lv2, allG, if_neg (by rw [lv8]; decide), lv8]

set_option maxRecDepth 100000 in
set_option maxHeartbeats 1000000 in
theorem live12 (w : World) : Calls Try.prog 4 #[] w fun e w' => e = .returned (.bool true) ∧ Below w.heap.size w w' := by
  go_enter Try.func4, Try.ntmps4
  go_wp2_with fail
  obtain ⟨W0, hW0⟩ : ∃ W0, W0 = (w.alloc (.cells #[.float .f64 4613937818241073152, .float .f64 13830554455654793216, .float .f64 4611686018427387904] 25)).alloc (.cells #[.int .i64 1, .slice (some ⟨w.heap.size, 0, none⟩) 3 3, .int .i64 2, .int .i64 4] 24) := ⟨_, rfl⟩
  rw [← hW0]
  have hbf : Bk W0 (w.heap.size + 1) 24 #[.int .i64 1, .slice (some ⟨w.heap.size, 0, none⟩) 3 3, .int .i64 2, .int .i64 4] := by rw [hW0]; have := Bk.new (w.alloc (.cells #[.float .f64 4613937818241073152, .float .f64 13830554455654793216, .float .f64 4611686018427387904] 25)) 24 #[.int .i64 1, .slice (some ⟨w.heap.size, 0, none⟩) 3 3, .int .i64 2, .int .i64 4]; simpa using this
  have hbr : Bk W0 w.heap.size 25 #[.float .f64 4613937818241073152, .float .f64 13830554455654793216, .float .f64 4611686018427387904] := by rw [hW0]; exact (Bk.new _ _ _).alloc _
  have hbW : Below w.heap.size w W0 := by rw [hW0]; exact ((Below.refl _ _).alloc (Nat.le_refl _) _).alloc (by simp) _
  have hsW : w.heap.size + 2 ≤ W0.heap.size := by rw [hW0]; simp
  have hsl : SlArg W0 (some ⟨w.heap.size, 0, none⟩) fL.xs 3 := by
    refine ⟨⟨by decide, fun _ => ⟨w.heap.size, 0, rfl, by omega, fun j hj => ?_⟩⟩, by decide, by decide⟩
    rw [Nat.zero_add, hbr.cell]
    have : j < 3 := hj
    rcases (by omega : j = 0 ∨ j = 1 ∨ j = 2) with rfl | rfl | rfl <;> rfl
  have HB0 := Lib.hid hbf; have HW0 := Lib.hid hbW; have HS0 := Lib.hid hsW; have HL0 := Lib.hid hsl
  clear hW0 hbf hbr hbW hsW hsl
  have h1 := factor_any fL (some ⟨w.heap.size, 0, none⟩) 3 4602678819172646912 W0 HL0.out
  rw [lv1, lv2] at h1
  refine h1.mono ?_
  clear h1
  rintro e w1 ⟨⟨v, rfl, Ag, cg, rfl, hsg, _⟩, hb1⟩
  have fb1 := HB0.out.below hb1 HB0.out.lt
  have fl1 := fb1.lt
  have fc10 := fb1.cell 0
  have fc11 := fb1.cell 1
  have fc12 := fb1.cell 2
  have fc13 := fb1.cell 3
  simp at fc10 fc11 fc12 fc13
  have Hfb1 := Lib.hid fb1; clear fb1
  have Hfss1 := Lib.hid (HL0.out.below hb1)
  have Hw1 := Lib.hid (HW0.out.trans (hb1.mono HW0.out.size))
  clear hb1
  have Hgss1 := Lib.hid hsg
  clear hsg
  unfold facV gL
  go_wp2_with fail
  obtain ⟨Vg, hVg⟩ : ∃ Vg, Vg = w1.alloc (.cells #[.int .i64 1, .slice Ag 3 cg, .int .i64 2, .int .i64 5] 24) := ⟨_, rfl⟩
  rw [← hVg]
  obtain ⟨qg, hqg⟩ : ∃ qg, qg = w1.heap.size := ⟨_, rfl⟩
  rw [← hqg]
  have HZg := Lib.hid (show Vg.heap.size = qg + 1 by rw [hVg, hqg, World.size_alloc])
  have fdg := Hfb1.out.alloc (.cells #[.int .i64 1, .slice Ag 3 cg, .int .i64 2, .int .i64 5] 24)
  rw [← hVg] at fdg
  have Hfdg := Lib.hid fdg
  have gdg : Bk Vg qg 24 #[.int .i64 1, .slice Ag 3 cg, .int .i64 2, .int .i64 5] := by rw [hVg, hqg]; exact Bk.new _ _ _
  have Hgdg := Lib.hid gdg
  have Hfstg := Lib.hid (Hfss1.out.below ((Below.refl _ w1).alloc (Nat.le_refl _) (.cells #[.int .i64 1, .slice Ag 3 cg, .int .i64 2, .int .i64 5] 24)))
  rw [← hVg] at Hfstg
  have Hgstg := Lib.hid (Hgss1.out.below ((Below.refl _ w1).alloc (Nat.le_refl _) (.cells #[.int .i64 1, .slice Ag 3 cg, .int .i64 2, .int .i64 5] 24)))
  rw [← hVg] at Hgstg
  have Hxg := Lib.hid (Hw1.out.alloc Hw1.out.size (.cells #[.int .i64 1, .slice Ag 3 cg, .int .i64 2, .int .i64 5] 24))
  rw [← hVg] at Hxg
  have fLg := Hfdg.out.lt
  have feg0 := Hfdg.out.cell 0
  have feg1 := Hfdg.out.cell 1
  have feg2 := Hfdg.out.cell 2
  have feg3 := Hfdg.out.cell 3
  simp at feg0 feg1 feg2 feg3
  have gLg := Hgdg.out.lt
  have geg0 := Hgdg.out.cell 0
  have geg1 := Hgdg.out.cell 1
  have geg2 := Hgdg.out.cell 2
  have geg3 := Hgdg.out.cell 3
  simp at geg0 geg1 geg2 geg3
  clear hVg hqg fdg gdg
  try clear fl1 fc10 fc11 fc12 fc13
  have h2 := factor_any fL (some ⟨w.heap.size, 0, none⟩) 3 4609434218613702656 Vg Hfstg.out
  rw [lv3, lz1] at h2
  refine h2.mono ?_
  clear h2
  rintro e w2 ⟨⟨v2, rfl, A2, c2, rfl, _⟩, hb2⟩
  have fb2 := Hfdg.out.below hb2 Hfdg.out.lt
  have fl2 := fb2.lt
  have fc20 := fb2.cell 0
  have fc21 := fb2.cell 1
  have fc22 := fb2.cell 2
  have fc23 := fb2.cell 3
  simp at fc20 fc21 fc22 fc23
  have Hfb2 := Lib.hid fb2; clear fb2
  have gb2 := Hgdg.out.below hb2 Hgdg.out.lt
  have gl2 := gb2.lt
  have gc20 := gb2.cell 0
  have gc21 := gb2.cell 1
  have gc22 := gb2.cell 2
  have gc23 := gb2.cell 3
  simp at gc20 gc21 gc22 gc23
  have Hgb2 := Lib.hid gb2; clear gb2
  have Hfss2 := Lib.hid (Hfstg.out.below hb2)
  have Hgss2 := Lib.hid (Hgstg.out.below hb2)
  have Hw2 := Lib.hid (Hxg.out.trans (hb2.mono Hxg.out.size))
  clear hb2
  unfold facV Fct.zero
  go_wp2_with fail
  obtain ⟨Vy, hVy⟩ : ∃ Vy, Vy = w2.alloc (.cells #[.int .i64 0, .slice A2 0 c2, .int .i64 0, .int .i64 0] 24) := ⟨_, rfl⟩
  rw [← hVy]
  obtain ⟨qy, hqy⟩ : ∃ qy, qy = w2.heap.size := ⟨_, rfl⟩
  rw [← hqy]
  have HZy := Lib.hid (show Vy.heap.size = qy + 1 by rw [hVy, hqy, World.size_alloc])
  have fdy := Hfb2.out.alloc (.cells #[.int .i64 0, .slice A2 0 c2, .int .i64 0, .int .i64 0] 24)
  rw [← hVy] at fdy
  have Hfdy := Lib.hid fdy
  have gdy := Hgb2.out.alloc (.cells #[.int .i64 0, .slice A2 0 c2, .int .i64 0, .int .i64 0] 24)
  rw [← hVy] at gdy
  have Hgdy := Lib.hid gdy
  have ydy : Bk Vy qy 24 #[.int .i64 0, .slice A2 0 c2, .int .i64 0, .int .i64 0] := by rw [hVy, hqy]; exact Bk.new _ _ _
  have Hydy := Lib.hid ydy
  have Hfsty := Lib.hid (Hfss2.out.below ((Below.refl _ w2).alloc (Nat.le_refl _) (.cells #[.int .i64 0, .slice A2 0 c2, .int .i64 0, .int .i64 0] 24)))
  rw [← hVy] at Hfsty
  have Hgsty := Lib.hid (Hgss2.out.below ((Below.refl _ w2).alloc (Nat.le_refl _) (.cells #[.int .i64 0, .slice A2 0 c2, .int .i64 0, .int .i64 0] 24)))
  rw [← hVy] at Hgsty
  have Hxy := Lib.hid (Hw2.out.alloc Hw2.out.size (.cells #[.int .i64 0, .slice A2 0 c2, .int .i64 0, .int .i64 0] 24))
  rw [← hVy] at Hxy
  have fLy := Hfdy.out.lt
  have fey0 := Hfdy.out.cell 0
  have fey1 := Hfdy.out.cell 1
  have fey2 := Hfdy.out.cell 2
  have fey3 := Hfdy.out.cell 3
  simp at fey0 fey1 fey2 fey3
  have gLy := Hgdy.out.lt
  have gey0 := Hgdy.out.cell 0
  have gey1 := Hgdy.out.cell 1
  have gey2 := Hgdy.out.cell 2
  have gey3 := Hgdy.out.cell 3
  simp at gey0 gey1 gey2 gey3
  clear hVy hqy fdy gdy ydy
  try clear fl2 fc20 fc21 fc22 fc23
  try clear gl2 gc20 gc21 gc22 gc23
  have h3 := factor_any Fct.zero none 0 4607182418800017408 Vy ⟨FlR.nil _ _ _, Nat.le_refl _, by decide⟩
  rw [lv4, lz2] at h3
  refine h3.mono ?_
  clear h3
  rintro e w3 ⟨⟨v3, rfl, A3, c3, rfl, _⟩, hb3⟩
  have fb3 := Hfdy.out.below hb3 Hfdy.out.lt
  have fl3 := fb3.lt
  have fc30 := fb3.cell 0
  have fc31 := fb3.cell 1
  have fc32 := fb3.cell 2
  have fc33 := fb3.cell 3
  simp at fc30 fc31 fc32 fc33
  have Hfb3 := Lib.hid fb3; clear fb3
  have gb3 := Hgdy.out.below hb3 Hgdy.out.lt
  have gl3 := gb3.lt
  have gc30 := gb3.cell 0
  have gc31 := gb3.cell 1
  have gc32 := gb3.cell 2
  have gc33 := gb3.cell 3
  simp at gc30 gc31 gc32 gc33
  have Hgb3 := Lib.hid gb3; clear gb3
  have Hfss3 := Lib.hid (Hfsty.out.below hb3)
  have Hgss3 := Lib.hid (Hgsty.out.below hb3)
  have Hw3 := Lib.hid (Hxy.out.trans (hb3.mono Hxy.out.size))
  clear hb3
  unfold facV Fct.zero
  go_wp2_with fail
  obtain ⟨Vz, hVz⟩ : ∃ Vz, Vz = w3.alloc (.cells #[.int .i64 0, .slice A3 0 c3, .int .i64 0, .int .i64 0] 24) := ⟨_, rfl⟩
  rw [← hVz]
  obtain ⟨qz, hqz⟩ : ∃ qz, qz = w3.heap.size := ⟨_, rfl⟩
  rw [← hqz]
  have HZz := Lib.hid (show Vz.heap.size = qz + 1 by rw [hVz, hqz, World.size_alloc])
  have fdz := Hfb3.out.alloc (.cells #[.int .i64 0, .slice A3 0 c3, .int .i64 0, .int .i64 0] 24)
  rw [← hVz] at fdz
  have Hfdz := Lib.hid fdz
  have gdz := Hgb3.out.alloc (.cells #[.int .i64 0, .slice A3 0 c3, .int .i64 0, .int .i64 0] 24)
  rw [← hVz] at gdz
  have Hgdz := Lib.hid gdz
  have zdz : Bk Vz qz 24 #[.int .i64 0, .slice A3 0 c3, .int .i64 0, .int .i64 0] := by rw [hVz, hqz]; exact Bk.new _ _ _
  have Hzdz := Lib.hid zdz
  have Hfstz := Lib.hid (Hfss3.out.below ((Below.refl _ w3).alloc (Nat.le_refl _) (.cells #[.int .i64 0, .slice A3 0 c3, .int .i64 0, .int .i64 0] 24)))
  rw [← hVz] at Hfstz
  have Hgstz := Lib.hid (Hgss3.out.below ((Below.refl _ w3).alloc (Nat.le_refl _) (.cells #[.int .i64 0, .slice A3 0 c3, .int .i64 0, .int .i64 0] 24)))
  rw [← hVz] at Hgstz
  have Hxz := Lib.hid (Hw3.out.alloc Hw3.out.size (.cells #[.int .i64 0, .slice A3 0 c3, .int .i64 0, .int .i64 0] 24))
  rw [← hVz] at Hxz
  have fLz := Hfdz.out.lt
  have fez0 := Hfdz.out.cell 0
  have fez1 := Hfdz.out.cell 1
  have fez2 := Hfdz.out.cell 2
  have fez3 := Hfdz.out.cell 3
  simp at fez0 fez1 fez2 fez3
  have gLz := Hgdz.out.lt
  have gez0 := Hgdz.out.cell 0
  have gez1 := Hgdz.out.cell 1
  have gez2 := Hgdz.out.cell 2
  have gez3 := Hgdz.out.cell 3
  simp at gez0 gez1 gez2 gez3
  clear hVz hqz fdz gdz zdz
  try clear fl3 fc30 fc31 fc32 fc33
  try clear gl3 gc30 gc31 gc32 gc33
  obtain ⟨Vr, hVr⟩ : ∃ Vr, Vr = Vz.alloc (.cells #[.float .f64 4602678819172646912, .float .f64 0] 25) := ⟨_, rfl⟩
  rw [← hVr]
  obtain ⟨qr, hqr⟩ : ∃ qr, qr = qz + 1 := ⟨_, rfl⟩
  rw [← hqr]
  have hqr := hqr.trans HZz.out.symm
  have HZr := Lib.hid (show Vr.heap.size = qr + 1 by rw [hVr, hqr, World.size_alloc])
  have fdr := Hfdz.out.alloc (.cells #[.float .f64 4602678819172646912, .float .f64 0] 25)
  rw [← hVr] at fdr
  have Hfdr := Lib.hid fdr
  have gdr := Hgdz.out.alloc (.cells #[.float .f64 4602678819172646912, .float .f64 0] 25)
  rw [← hVr] at gdr
  have Hgdr := Lib.hid gdr
  have rdr : Bk Vr qr 25 #[.float .f64 4602678819172646912, .float .f64 0] := by rw [hVr, hqr]; exact Bk.new _ _ _
  have Hrdr := Lib.hid rdr
  have Hfstr := Lib.hid (Hfstz.out.below ((Below.refl _ Vz).alloc (Nat.le_refl _) (.cells #[.float .f64 4602678819172646912, .float .f64 0] 25)))
  rw [← hVr] at Hfstr
  have Hgstr := Lib.hid (Hgstz.out.below ((Below.refl _ Vz).alloc (Nat.le_refl _) (.cells #[.float .f64 4602678819172646912, .float .f64 0] 25)))
  rw [← hVr] at Hgstr
  have Hxr := Lib.hid (Hxz.out.alloc Hxz.out.size (.cells #[.float .f64 4602678819172646912, .float .f64 0] 25))
  rw [← hVr] at Hxr
  have fLr := Hfdr.out.lt
  have fer0 := Hfdr.out.cell 0
  have fer1 := Hfdr.out.cell 1
  have fer2 := Hfdr.out.cell 2
  have fer3 := Hfdr.out.cell 3
  simp at fer0 fer1 fer2 fer3
  have gLr := Hgdr.out.lt
  have ger0 := Hgdr.out.cell 0
  have ger1 := Hgdr.out.cell 1
  have ger2 := Hgdr.out.cell 2
  have ger3 := Hgdr.out.cell 3
  simp at ger0 ger1 ger2 ger3
  clear hVr hqr fdr gdr rdr
  try clear fl3 fc30 fc31 fc32 fc33
  try clear gl3 gc30 gc31 gc32 gc33
  have slr : SlArg Vr (some ⟨qr, 0, none⟩) [4602678819172646912, 0] 2 := by
    refine ⟨⟨by decide, fun _ => ⟨qr, 0, rfl, Hrdr.out.lt, fun j hj => ?_⟩⟩, by decide, by decide⟩
    rw [Nat.zero_add, Hrdr.out.cell]
    have : j < 2 := hj
    rcases (by omega : j = 0 ∨ j = 1) with rfl | rfl <;> rfl
  have Hslr := Lib.hid slr; clear slr
  have h4 := fall_any fL (some ⟨w.heap.size, 0, none⟩) 3 [4602678819172646912, 0] (some ⟨qr, 0, none⟩) 2 Vr Hfstr.out Hslr.out (by decide)
  rw [lv9] at h4
  dsimp only at h4
  refine h4.mono ?_
  clear h4
  rintro e w4 ⟨⟨v4, rfl, Ah, ch, rfl, hsh, _⟩, hb4⟩
  have fb4 := Hfdr.out.below hb4 Hfdr.out.lt
  have fl4 := fb4.lt
  have fc40 := fb4.cell 0
  have fc41 := fb4.cell 1
  have fc42 := fb4.cell 2
  have fc43 := fb4.cell 3
  simp at fc40 fc41 fc42 fc43
  have Hfb4 := Lib.hid fb4; clear fb4
  have gb4 := Hgdr.out.below hb4 Hgdr.out.lt
  have gl4 := gb4.lt
  have gc40 := gb4.cell 0
  have gc41 := gb4.cell 1
  have gc42 := gb4.cell 2
  have gc43 := gb4.cell 3
  simp at gc40 gc41 gc42 gc43
  have Hgb4 := Lib.hid gb4; clear gb4
  have Hfss4 := Lib.hid (Hfstr.out.below hb4)
  have Hgss4 := Lib.hid (Hgstr.out.below hb4)
  have Hw4 := Lib.hid (Hxr.out.trans (hb4.mono Hxr.out.size))
  clear hb4
  have Hhss4 := Lib.hid hsh
  clear hsh
  unfold facV gL
  go_wp2_with fail
  obtain ⟨Vh, hVh⟩ : ∃ Vh, Vh = w4.alloc (.cells #[.int .i64 1, .slice Ah 3 ch, .int .i64 2, .int .i64 5] 24) := ⟨_, rfl⟩
  rw [← hVh]
  obtain ⟨qh, hqh⟩ : ∃ qh, qh = w4.heap.size := ⟨_, rfl⟩
  rw [← hqh]
  have HZh := Lib.hid (show Vh.heap.size = qh + 1 by rw [hVh, hqh, World.size_alloc])
  have fdh := Hfb4.out.alloc (.cells #[.int .i64 1, .slice Ah 3 ch, .int .i64 2, .int .i64 5] 24)
  rw [← hVh] at fdh
  have Hfdh := Lib.hid fdh
  have gdh := Hgb4.out.alloc (.cells #[.int .i64 1, .slice Ah 3 ch, .int .i64 2, .int .i64 5] 24)
  rw [← hVh] at gdh
  have Hgdh := Lib.hid gdh
  have hdh : Bk Vh qh 24 #[.int .i64 1, .slice Ah 3 ch, .int .i64 2, .int .i64 5] := by rw [hVh, hqh]; exact Bk.new _ _ _
  have Hhdh := Lib.hid hdh
  have Hfsth := Lib.hid (Hfss4.out.below ((Below.refl _ w4).alloc (Nat.le_refl _) (.cells #[.int .i64 1, .slice Ah 3 ch, .int .i64 2, .int .i64 5] 24)))
  rw [← hVh] at Hfsth
  have Hgsth := Lib.hid (Hgss4.out.below ((Below.refl _ w4).alloc (Nat.le_refl _) (.cells #[.int .i64 1, .slice Ah 3 ch, .int .i64 2, .int .i64 5] 24)))
  rw [← hVh] at Hgsth
  have Hhsth := Lib.hid (Hhss4.out.below ((Below.refl _ w4).alloc (Nat.le_refl _) (.cells #[.int .i64 1, .slice Ah 3 ch, .int .i64 2, .int .i64 5] 24)))
  rw [← hVh] at Hhsth
  have Hxh := Lib.hid (Hw4.out.alloc Hw4.out.size (.cells #[.int .i64 1, .slice Ah 3 ch, .int .i64 2, .int .i64 5] 24))
  rw [← hVh] at Hxh
  have fLh := Hfdh.out.lt
  have feh0 := Hfdh.out.cell 0
  have feh1 := Hfdh.out.cell 1
  have feh2 := Hfdh.out.cell 2
  have feh3 := Hfdh.out.cell 3
  simp at feh0 feh1 feh2 feh3
  have gLh := Hgdh.out.lt
  have geh0 := Hgdh.out.cell 0
  have geh1 := Hgdh.out.cell 1
  have geh2 := Hgdh.out.cell 2
  have geh3 := Hgdh.out.cell 3
  simp at geh0 geh1 geh2 geh3
  have hLh := Hhdh.out.lt
  have heh0 := Hhdh.out.cell 0
  have heh1 := Hhdh.out.cell 1
  have heh2 := Hhdh.out.cell 2
  have heh3 := Hhdh.out.cell 3
  simp at heh0 heh1 heh2 heh3
  clear hVh hqh fdh gdh hdh
  try clear fl4 fc40 fc41 fc42 fc43
  try clear gl4 gc40 gc41 gc42 gc43
  have h5 := often_any fL (some ⟨w.heap.size, 0, none⟩) 3 4602678819172646912 2 Vh Hfsth.out
  rw [lv5, lv6] at h5
  refine h5.mono ?_
  clear h5
  rintro e w5 ⟨⟨v5, rfl, Ak, ck, rfl, hsk, _⟩, hb5⟩
  have fb5 := Hfdh.out.below hb5 Hfdh.out.lt
  have fl5 := fb5.lt
  have fc50 := fb5.cell 0
  have fc51 := fb5.cell 1
  have fc52 := fb5.cell 2
  have fc53 := fb5.cell 3
  simp at fc50 fc51 fc52 fc53
  have Hfb5 := Lib.hid fb5; clear fb5
  have gb5 := Hgdh.out.below hb5 Hgdh.out.lt
  have gl5 := gb5.lt
  have gc50 := gb5.cell 0
  have gc51 := gb5.cell 1
  have gc52 := gb5.cell 2
  have gc53 := gb5.cell 3
  simp at gc50 gc51 gc52 gc53
  have Hgb5 := Lib.hid gb5; clear gb5
  have hb5 := Hhdh.out.below hb5 Hhdh.out.lt
  have hl5 := hb5.lt
  have hc50 := hb5.cell 0
  have hc51 := hb5.cell 1
  have hc52 := hb5.cell 2
  have hc53 := hb5.cell 3
  simp at hc50 hc51 hc52 hc53
  have Hhb5 := Lib.hid hb5; clear hb5
  have Hfss5 := Lib.hid (Hfsth.out.below hb5)
  have Hgss5 := Lib.hid (Hgsth.out.below hb5)
  have Hhss5 := Lib.hid (Hhsth.out.below hb5)
  have Hw5 := Lib.hid (Hxh.out.trans (hb5.mono Hxh.out.size))
  clear hb5
  have Hkss5 := Lib.hid hsk
  clear hsk
  unfold facV kL
  go_wp2_with fail
  obtain ⟨Vk, hVk⟩ : ∃ Vk, Vk = w5.alloc (.cells #[.int .i64 1, .slice Ak 3 ck, .int .i64 2, .int .i64 6] 24) := ⟨_, rfl⟩
  rw [← hVk]
  obtain ⟨qk, hqk⟩ : ∃ qk, qk = w5.heap.size := ⟨_, rfl⟩
  rw [← hqk]
  have HZk := Lib.hid (show Vk.heap.size = qk + 1 by rw [hVk, hqk, World.size_alloc])
  have fdk := Hfb5.out.alloc (.cells #[.int .i64 1, .slice Ak 3 ck, .int .i64 2, .int .i64 6] 24)
  rw [← hVk] at fdk
  have Hfdk := Lib.hid fdk
  have gdk := Hgb5.out.alloc (.cells #[.int .i64 1, .slice Ak 3 ck, .int .i64 2, .int .i64 6] 24)
  rw [← hVk] at gdk
  have Hgdk := Lib.hid gdk
  have hdk := Hhb5.out.alloc (.cells #[.int .i64 1, .slice Ak 3 ck, .int .i64 2, .int .i64 6] 24)
  rw [← hVk] at hdk
  have Hhdk := Lib.hid hdk
  have kdk : Bk Vk qk 24 #[.int .i64 1, .slice Ak 3 ck, .int .i64 2, .int .i64 6] := by rw [hVk, hqk]; exact Bk.new _ _ _
  have Hkdk := Lib.hid kdk
  have Hfstk := Lib.hid (Hfss5.out.below ((Below.refl _ w5).alloc (Nat.le_refl _) (.cells #[.int .i64 1, .slice Ak 3 ck, .int .i64 2, .int .i64 6] 24)))
  rw [← hVk] at Hfstk
  have Hgstk := Lib.hid (Hgss5.out.below ((Below.refl _ w5).alloc (Nat.le_refl _) (.cells #[.int .i64 1, .slice Ak 3 ck, .int .i64 2, .int .i64 6] 24)))
  rw [← hVk] at Hgstk
  have Hhstk := Lib.hid (Hhss5.out.below ((Below.refl _ w5).alloc (Nat.le_refl _) (.cells #[.int .i64 1, .slice Ak 3 ck, .int .i64 2, .int .i64 6] 24)))
  rw [← hVk] at Hhstk
  have Hkstk := Lib.hid (Hkss5.out.below ((Below.refl _ w5).alloc (Nat.le_refl _) (.cells #[.int .i64 1, .slice Ak 3 ck, .int .i64 2, .int .i64 6] 24)))
  rw [← hVk] at Hkstk
  have Hxk := Lib.hid (Hw5.out.alloc Hw5.out.size (.cells #[.int .i64 1, .slice Ak 3 ck, .int .i64 2, .int .i64 6] 24))
  rw [← hVk] at Hxk
  have fLk := Hfdk.out.lt
  have fek0 := Hfdk.out.cell 0
  have fek1 := Hfdk.out.cell 1
  have fek2 := Hfdk.out.cell 2
  have fek3 := Hfdk.out.cell 3
  simp at fek0 fek1 fek2 fek3
  have gLk := Hgdk.out.lt
  have gek0 := Hgdk.out.cell 0
  have gek1 := Hgdk.out.cell 1
  have gek2 := Hgdk.out.cell 2
  have gek3 := Hgdk.out.cell 3
  simp at gek0 gek1 gek2 gek3
  have hLk := Hhdk.out.lt
  have hek0 := Hhdk.out.cell 0
  have hek1 := Hhdk.out.cell 1
  have hek2 := Hhdk.out.cell 2
  have hek3 := Hhdk.out.cell 3
  simp at hek0 hek1 hek2 hek3
  have kLk := Hkdk.out.lt
  have kek0 := Hkdk.out.cell 0
  have kek1 := Hkdk.out.cell 1
  have kek2 := Hkdk.out.cell 2
  have kek3 := Hkdk.out.cell 3
  simp at kek0 kek1 kek2 kek3
  clear hVk hqk fdk gdk hdk kdk
  try clear fl5 fc50 fc51 fc52 fc53
  try clear gl5 gc50 gc51 gc52 gc53
  try clear hl5 hc50 hc51 hc52 hc53
  have h6 := often_any fL (some ⟨w.heap.size, 0, none⟩) 3 4602678819172646912 5000 Vk Hfstk.out
  rw [lv7, lz3] at h6
  refine h6.mono ?_
  clear h6
  rintro e w6 ⟨⟨v6, rfl, A6, c6, rfl, _⟩, hb6⟩
  have fb6 := Hfdk.out.below hb6 Hfdk.out.lt
  have fl6 := fb6.lt
  have fc60 := fb6.cell 0
  have fc61 := fb6.cell 1
  have fc62 := fb6.cell 2
  have fc63 := fb6.cell 3
  simp at fc60 fc61 fc62 fc63
  have Hfb6 := Lib.hid fb6; clear fb6
  have gb6 := Hgdk.out.below hb6 Hgdk.out.lt
  have gl6 := gb6.lt
  have gc60 := gb6.cell 0
  have gc61 := gb6.cell 1
  have gc62 := gb6.cell 2
  have gc63 := gb6.cell 3
  simp at gc60 gc61 gc62 gc63
  have Hgb6 := Lib.hid gb6; clear gb6
  have hb6 := Hhdk.out.below hb6 Hhdk.out.lt
  have hl6 := hb6.lt
  have hc60 := hb6.cell 0
  have hc61 := hb6.cell 1
  have hc62 := hb6.cell 2
  have hc63 := hb6.cell 3
  simp at hc60 hc61 hc62 hc63
  have Hhb6 := Lib.hid hb6; clear hb6
  have kb6 := Hkdk.out.below hb6 Hkdk.out.lt
  have kl6 := kb6.lt
  have kc60 := kb6.cell 0
  have kc61 := kb6.cell 1
  have kc62 := kb6.cell 2
  have kc63 := kb6.cell 3
  simp at kc60 kc61 kc62 kc63
  have Hkb6 := Lib.hid kb6; clear kb6
  have Hfss6 := Lib.hid (Hfstk.out.below hb6)
  have Hgss6 := Lib.hid (Hgstk.out.below hb6)
  have Hhss6 := Lib.hid (Hhstk.out.below hb6)
  have Hkss6 := Lib.hid (Hkstk.out.below hb6)
  have Hw6 := Lib.hid (Hxk.out.trans (hb6.mono Hxk.out.size))
  clear hb6
  obtain ⟨bg, og, hAg, hbg, hcg⟩ := Hgss6.out.reads.2 (by decide)
  subst hAg
  have xg0 := hcg 0 (by decide); have xg1 := hcg 1 (by decide)
  simp [gL] at xg0 xg1
  obtain ⟨bk, ok, hAk, hbk, hck⟩ := Hkss6.out.reads.2 (by decide)
  subst hAk
  have xk2 := hck 2 (by decide)
  simp [kL] at xk2
  clear hcg hck
  unfold facV Fct.zero
  go_wp2_with fail
  obtain ⟨Vu, hVu⟩ : ∃ Vu, Vu = w6.alloc (.cells #[.int .i64 0, .slice A6 0 c6, .int .i64 0, .int .i64 0] 24) := ⟨_, rfl⟩
  rw [← hVu]
  obtain ⟨qu, hqu⟩ : ∃ qu, qu = w6.heap.size := ⟨_, rfl⟩
  rw [← hqu]
  have HZu := Lib.hid (show Vu.heap.size = qu + 1 by rw [hVu, hqu, World.size_alloc])
  have fdu := Hfb6.out.alloc (.cells #[.int .i64 0, .slice A6 0 c6, .int .i64 0, .int .i64 0] 24)
  rw [← hVu] at fdu
  have Hfdu := Lib.hid fdu
  have gdu := Hgb6.out.alloc (.cells #[.int .i64 0, .slice A6 0 c6, .int .i64 0, .int .i64 0] 24)
  rw [← hVu] at gdu
  have Hgdu := Lib.hid gdu
  have hdu := Hhb6.out.alloc (.cells #[.int .i64 0, .slice A6 0 c6, .int .i64 0, .int .i64 0] 24)
  rw [← hVu] at hdu
  have Hhdu := Lib.hid hdu
  have kdu := Hkb6.out.alloc (.cells #[.int .i64 0, .slice A6 0 c6, .int .i64 0, .int .i64 0] 24)
  rw [← hVu] at kdu
  have Hkdu := Lib.hid kdu
  have udu : Bk Vu qu 24 #[.int .i64 0, .slice A6 0 c6, .int .i64 0, .int .i64 0] := by rw [hVu, hqu]; exact Bk.new _ _ _
  have Hudu := Lib.hid udu
  have Hfstu := Lib.hid (Hfss6.out.below ((Below.refl _ w6).alloc (Nat.le_refl _) (.cells #[.int .i64 0, .slice A6 0 c6, .int .i64 0, .int .i64 0] 24)))
  rw [← hVu] at Hfstu
  have Hgstu := Lib.hid (Hgss6.out.below ((Below.refl _ w6).alloc (Nat.le_refl _) (.cells #[.int .i64 0, .slice A6 0 c6, .int .i64 0, .int .i64 0] 24)))
  rw [← hVu] at Hgstu
  have Hhstu := Lib.hid (Hhss6.out.below ((Below.refl _ w6).alloc (Nat.le_refl _) (.cells #[.int .i64 0, .slice A6 0 c6, .int .i64 0, .int .i64 0] 24)))
  rw [← hVu] at Hhstu
  have Hkstu := Lib.hid (Hkss6.out.below ((Below.refl _ w6).alloc (Nat.le_refl _) (.cells #[.int .i64 0, .slice A6 0 c6, .int .i64 0, .int .i64 0] 24)))
  rw [← hVu] at Hkstu
  have Hxu := Lib.hid (Hw6.out.alloc Hw6.out.size (.cells #[.int .i64 0, .slice A6 0 c6, .int .i64 0, .int .i64 0] 24))
  rw [← hVu] at Hxu
  have fLu := Hfdu.out.lt
  have feu0 := Hfdu.out.cell 0
  have feu1 := Hfdu.out.cell 1
  have feu2 := Hfdu.out.cell 2
  have feu3 := Hfdu.out.cell 3
  simp at feu0 feu1 feu2 feu3
  have gLu := Hgdu.out.lt
  have geu0 := Hgdu.out.cell 0
  have geu1 := Hgdu.out.cell 1
  have geu2 := Hgdu.out.cell 2
  have geu3 := Hgdu.out.cell 3
  simp at geu0 geu1 geu2 geu3
  have hLu := Hhdu.out.lt
  have heu0 := Hhdu.out.cell 0
  have heu1 := Hhdu.out.cell 1
  have heu2 := Hhdu.out.cell 2
  have heu3 := Hhdu.out.cell 3
  simp at heu0 heu1 heu2 heu3
  have kLu := Hkdu.out.lt
  have keu0 := Hkdu.out.cell 0
  have keu1 := Hkdu.out.cell 1
  have keu2 := Hkdu.out.cell 2
  have keu3 := Hkdu.out.cell 3
  simp at keu0 keu1 keu2 keu3
  clear hVu hqu fdu gdu hdu kdu udu
  try clear fl6 fc60 fc61 fc62 fc63
  try clear gl6 gc60 gc61 gc62 gc63
  try clear hl6 hc60 hc61 hc62 hc63
  try clear kl6 kc60 kc61 kc62 kc63
  clear xg0 xg1 xk2 hbg hbk
  have h7 := fac_same gL Ah (some ⟨bg, og, none⟩) ch cg Vu Hhstu.out Hgstu.out
  refine h7.mono ?_
  clear h7
  rintro e w7 ⟨rfl, hb7⟩
  have fb7 := Hfdu.out.below hb7 Hfdu.out.lt
  have fl7 := fb7.lt
  have fc70 := fb7.cell 0
  have fc71 := fb7.cell 1
  have fc72 := fb7.cell 2
  have fc73 := fb7.cell 3
  simp at fc70 fc71 fc72 fc73
  have Hfb7 := Lib.hid fb7; clear fb7
  have gb7 := Hgdu.out.below hb7 Hgdu.out.lt
  have gl7 := gb7.lt
  have gc70 := gb7.cell 0
  have gc71 := gb7.cell 1
  have gc72 := gb7.cell 2
  have gc73 := gb7.cell 3
  simp at gc70 gc71 gc72 gc73
  have Hgb7 := Lib.hid gb7; clear gb7
  have hb7 := Hhdu.out.below hb7 Hhdu.out.lt
  have hl7 := hb7.lt
  have hc70 := hb7.cell 0
  have hc71 := hb7.cell 1
  have hc72 := hb7.cell 2
  have hc73 := hb7.cell 3
  simp at hc70 hc71 hc72 hc73
  have Hhb7 := Lib.hid hb7; clear hb7
  have kb7 := Hkdu.out.below hb7 Hkdu.out.lt
  have kl7 := kb7.lt
  have kc70 := kb7.cell 0
  have kc71 := kb7.cell 1
  have kc72 := kb7.cell 2
  have kc73 := kb7.cell 3
  simp at kc70 kc71 kc72 kc73
  have Hkb7 := Lib.hid kb7; clear kb7
  have Hfss7 := Lib.hid (Hfstu.out.below hb7)
  have Hgss7 := Lib.hid (Hgstu.out.below hb7)
  have Hhss7 := Lib.hid (Hhstu.out.below hb7)
  have Hkss7 := Lib.hid (Hkstu.out.below hb7)
  have Hw7 := Lib.hid (Hxu.out.trans (hb7.mono Hxu.out.size))
  clear hb7
  obtain ⟨bk', ok', hAk, hbk, hck⟩ := Hkss7.out.reads.2 (by decide)
  cases hAk
  have xk2 := hck 2 (by decide)
  simp [kL] at xk2
  clear hck
  go_wp2_with (go_at_call 12; refine (may_any _ _).mono ?_; rintro e w' ⟨rfl, rfl⟩)
  go_ret
  exact ⟨ret_t' (by decide +kernel), Hw7.out⟩

end Go.Proofs.Ytdpmpfbbfknlmaa
