/- live of layer 5. -/
import Derived.Test.YtcoaachajdomcaaGd
import Derived.Test.YtcoaachajdomcaaMd
namespace Lev
theorem kw1 : dotF [4607182418800017408, 4611686018427387904, 4613937818241073152] [4616189618054758400, 13840687554816376832, 4618441417868443648] = 4622945017495814144 := by decide +kernel
theorem kw2 : fitS [4607182418800017408, 4611686018427387904, 4613937818241073152] [4616189618054758400, 13840687554816376832, 4618441417868443648] = true := by decide +kernel
theorem kw3 : dotF [4607182418800017408] [] = 0 := by decide +kernel
theorem kw4 : fitS [4607182418800017408] [] = false := by decide +kernel
theorem kw5 : normF [4613937818241073152, 13839561654909534208] = 4617315517961601024 := by decide +kernel
theorem kw6 : allIn [4613937818241073152, 13839561654909534208] = true := by decide +kernel
theorem kw7 : makeF false 1 400 = 6408622269748215808 := by decide +kernel
theorem kw8 : normF [6408622269748215808, 0] = 6408622269748215808 := by decide +kernel
theorem kw9 : allIn [6408622269748215808, 0] = true := by decide +kernel
theorem kw10 : sumF [4607182418800017408, 13835058055282163712] = 4613937818241073152 := by decide +kernel
theorem kw11 : allIn [4607182418800017408, 13835058055282163712] = true := by decide +kernel
theorem kw12 : axF 4611686018427387904 [4607182418800017408, 4613937818241073152] [4617315517961601024, 4619567317775286272] = [4619567317775286272, 4623507967449235456] := by decide +kernel
theorem kw13 : axB 4611686018427387904 [4607182418800017408, 4613937818241073152] [4617315517961601024, 4619567317775286272] = true := by decide +kernel
theorem kw14 : makeF false 1 401 = 6413125869375586304 := by decide +kernel
theorem kw15 : allIn [4607182418800017408, 6413125869375586304] = false := by decide +kernel
theorem kw16 : allIn [] = true := rfl
theorem kc1 : feq 4622945017495814144 4622945017495814144 = true := by decide
theorem kc2 : feq 4617315517961601024 4617315517961601024 = true := by decide
theorem kc3 : feq 6408622269748215808 6408622269748215808 = true := by decide
theorem kc4 : feq 4613937818241073152 4613937818241073152 = true := by decide
theorem kc5 : feq 4619567317775286272 4619567317775286272 = true := by decide
theorem kc6 : feq 4623507967449235456 4623507967449235456 = true := by decide
end Lev
namespace Go.Proofs.Ytcoaachajdomcaa
open Go.RowKit Go.Shelf Lev

attribute [local go_sem] order_lt order_gt order_eq order_ne flt_or_feq flt_or_feq' kc1 kc2 kc3 kc4 kc5 kc6

theorem slLit {W : World} {g : Nat} {t : TypeId} {xs : List Nat} (h : Bk W g t (xs.map (Value.float .f64)).toArray) (hx : ∀ x ∈ xs, x < 18446744073709551616) (hl : xs.length ≤ 9223372036854775807) : SlArg W (some ⟨g, 0, none⟩) xs xs.length := by
  refine ⟨⟨hx, fun _ => ⟨g, 0, rfl, h.lt, fun j hj => ?_⟩⟩, Nat.le_refl _, hl⟩
  rw [Nat.zero_add, h.cell]
  simp [hj]

theorem ldot (W : World) : Calls Try.prog 9 #[.slice (some ⟨W.heap.size, 0, none⟩) 3 3, .slice (some ⟨W.heap.size + 1, 0, none⟩) 3 3] ((W.alloc (.cells #[.float .f64 4607182418800017408, .float .f64 4611686018427387904, .float .f64 4613937818241073152] 22)).alloc (.cells #[.float .f64 4616189618054758400, .float .f64 13840687554816376832, .float .f64 4618441417868443648] 22))
    fun e w' => e = .returned (.tuple #[.float .f64 4622945017495814144, .bool true]) ∧ Below W.heap.size W w' := by
  have K := ((Keep.start W).alloc #[.float .f64 4607182418800017408, .float .f64 4611686018427387904, .float .f64 4613937818241073152] 22).alloc #[.float .f64 4616189618054758400, .float .f64 13840687554816376832, .float .f64 4618441417868443648] 22
  have h1 := slLit (xs := [4607182418800017408, 4611686018427387904, 4613937818241073152]) (K.box (.tail _ (.head _))) (by decide) (by decide)
  have h2 := slLit (xs := [4616189618054758400, 13840687554816376832, 4618441417868443648]) (K.box (.head _)) (by decide) (by decide)
  have h := kdot_any _ _ _ _ _ _ _ h1 h2 (by decide)
  rw [kw1, kw2, World.size_alloc] at h
  exact h.mono fun e w' ⟨a, b⟩ => ⟨a, Below.chain K.below b⟩
theorem ldot0 (W : World) : Calls Try.prog 9 #[.slice (some ⟨W.heap.size, 0, none⟩) 1 1, .slice none 0 0] (W.alloc (.cells #[.float .f64 4607182418800017408] 22))
    fun e w' => e = .returned (.tuple #[.float .f64 0, .bool false]) ∧ Below W.heap.size W w' := by
  have K := (Keep.start W).alloc #[.float .f64 4607182418800017408] 22
  have h1 := slLit (xs := [4607182418800017408]) (K.box (.head _)) (by decide) (by decide)
  have h := kdot_any _ _ _ none [] 0 _ h1 ⟨FlR.nil _ _ _, by decide, by decide⟩ (by decide)
  rw [kw3, kw4] at h
  exact h.mono fun e w' ⟨a, b⟩ => ⟨a, Below.chain K.below b⟩
theorem lnorm (W : World) : Calls Try.prog 15 #[.slice (some ⟨W.heap.size, 0, none⟩) 2 2] (W.alloc (.cells #[.float .f64 4613937818241073152, .float .f64 13839561654909534208] 22))
    fun e w' => e = .returned (.tuple #[.float .f64 4617315517961601024, .bool true]) ∧ Below W.heap.size W w' := by
  have K := (Keep.start W).alloc #[.float .f64 4613937818241073152, .float .f64 13839561654909534208] 22
  have h1 := slLit (xs := [4613937818241073152, 13839561654909534208]) (K.box (.head _)) (by decide) (by decide)
  have h := knorm_any _ _ _ _ h1 (by decide)
  rw [kw5, kw6] at h
  exact h.mono fun e w' ⟨a, b⟩ => ⟨a, Below.chain K.below b⟩
theorem lnorm2 (W : World) : Calls Try.prog 15 #[.slice (some ⟨W.heap.size, 0, none⟩) 2 2] (W.alloc (.cells #[.float .f64 6408622269748215808, .float .f64 0] 22))
    fun e w' => e = .returned (.tuple #[.float .f64 6408622269748215808, .bool true]) ∧ Below W.heap.size W w' := by
  have K := (Keep.start W).alloc #[.float .f64 6408622269748215808, .float .f64 0] 22
  have h1 := slLit (xs := [6408622269748215808, 0]) (K.box (.head _)) (by decide) (by decide)
  have h := knorm_any _ _ _ _ h1 (by decide)
  rw [kw8, kw9] at h
  exact h.mono fun e w' ⟨a, b⟩ => ⟨a, Below.chain K.below b⟩
theorem lsum (W : World) : Calls Try.prog 13 #[.slice (some ⟨W.heap.size, 0, none⟩) 2 2] (W.alloc (.cells #[.float .f64 4607182418800017408, .float .f64 13835058055282163712] 22))
    fun e w' => e = .returned (.tuple #[.float .f64 4613937818241073152, .bool true]) ∧ Below W.heap.size W w' := by
  have K := (Keep.start W).alloc #[.float .f64 4607182418800017408, .float .f64 13835058055282163712] 22
  have h1 := slLit (xs := [4607182418800017408, 13835058055282163712]) (K.box (.head _)) (by decide) (by decide)
  have h := ksum_any _ _ _ _ h1 (by decide)
  rw [kw10, kw11] at h
  exact h.mono fun e w' ⟨a, b⟩ => ⟨a, Below.chain K.below b⟩
theorem laxpy (W : World) : Calls Try.prog 11 #[.float .f64 4611686018427387904, .slice (some ⟨W.heap.size, 0, none⟩) 2 2, .slice (some ⟨W.heap.size + 1, 0, none⟩) 2 2] ((W.alloc (.cells #[.float .f64 4607182418800017408, .float .f64 4613937818241073152] 22)).alloc (.cells #[.float .f64 4617315517961601024, .float .f64 4619567317775286272] 22))
    fun e w' => (∃ b o m, e = .returned (.tuple #[.slice (some ⟨b, o, none⟩) 2 m, .bool true]) ∧ w'.cell? ⟨b, o, none⟩ = some (.float .f64 4619567317775286272) ∧ w'.cell? ⟨b, o + 1, none⟩ = some (.float .f64 4623507967449235456) ∧ b < w'.heap.size) ∧ Below W.heap.size W w' := by
  have K := ((Keep.start W).alloc #[.float .f64 4607182418800017408, .float .f64 4613937818241073152] 22).alloc #[.float .f64 4617315517961601024, .float .f64 4619567317775286272] 22
  have h1 := slLit (xs := [4607182418800017408, 4613937818241073152]) (K.box (.tail _ (.head _))) (by decide) (by decide)
  have h2 := slLit (xs := [4617315517961601024, 4619567317775286272]) (K.box (.head _)) (by decide) (by decide)
  have h := kaxpy_any 4611686018427387904 (by decide) _ _ _ _ _ _ _ h1 h2 (by decide)
  rw [kw12, kw13, World.size_alloc] at h
  refine h.mono fun e w' ⟨⟨R, m, a, hs⟩, b⟩ => ⟨?_, Below.chain K.below b⟩
  obtain ⟨b, o, rfl, hb, hc⟩ := hs.reads.2 (by decide)
  exact ⟨b, o, m, a, hc 0 (by decide), hc 1 (by decide), hb⟩

set_option maxRecDepth 100000 in
set_option maxHeartbeats 1000000 in
theorem live05 (w : World) : Calls Try.prog 8 #[] w fun e w' => e = .returned (.bool true) ∧ Below w.heap.size w w' := by
  have hp := fun W => pow_any 400 W
  rw [kw7] at hp
  have hq := fun W => pow_any 401 W
  rw [kw14] at hq
  have HP := Lib.hid hp; have HQ := Lib.hid hq
  clear hp hq
  go_enter Try.func8, Try.ntmps8
  go_wp2_with fail
  refine (ldot w).mono ?_
  rintro e w1 ⟨rfl, hb1⟩
  have B1 := Lib.hid hb1
  clear hb1
  go_wp2_with fail
  refine (ldot0 w1).mono ?_
  rintro e w2 ⟨rfl, hb2⟩
  have B2 := Lib.hid (Below.chain B1.out hb2)
  clear hb2 B1
  go_wp2_with fail
  refine (lnorm w2).mono ?_
  rintro e w3 ⟨rfl, hb3⟩
  have B3 := Lib.hid (Below.chain B2.out hb3)
  clear hb3 B2
  go_wp2_with fail
  refine (HP.out _).mono ?_
  rintro e w' ⟨rfl, rfl⟩
  go_wp2_with fail
  refine (lnorm2 w3).mono ?_
  rintro e w4 ⟨rfl, hb4⟩
  have B4 := Lib.hid (Below.chain B3.out hb4)
  clear hb4 B3
  go_wp2_with fail
  refine (lsum w4).mono ?_
  rintro e w5 ⟨rfl, hb5⟩
  have B5 := Lib.hid (Below.chain B4.out hb5)
  clear hb5 B4
  go_wp2_with fail
  refine (laxpy w5).mono ?_
  rintro e w6 ⟨⟨b, o, m, rfl, c0, c1, hlt⟩, hb6⟩
  have B6 := Lib.hid (Below.chain B5.out hb6)
  clear hb6 B5
  have hnil : SlArg w6 none [] 0 := ⟨FlR.nil _ _ _, by decide, by decide⟩
  have HN := Lib.hid (kall_any none [] 0 w6 hnil)
  rw [kw16] at HN
  have K := (Keep.start w6).alloc #[.float .f64 4607182418800017408, .float .f64 6413125869375586304] 22
  have HB := Lib.hid (kall_any _ _ _ _ (slLit (xs := [4607182418800017408, 6413125869375586304]) (K.box (.head _)) (by decide) (by decide)))
  rw [kw15] at HB
  have HK := Lib.hid K.below
  clear K hnil
  go_wp2_with fail
  refine (HP.out _).mono ?_
  rintro e w' ⟨rfl, rfl⟩
  go_wp2_with fail
  refine HN.out.mono ?_
  rintro e w' ⟨rfl, rfl⟩
  go_wp2_with fail
  refine (HQ.out _).mono ?_
  rintro e w' ⟨rfl, rfl⟩
  go_wp2_with fail
  refine HB.out.mono ?_
  rintro e w' ⟨rfl, rfl⟩
  go_wp2
  go_ret
  exact ⟨rfl, Below.chain B6.out HK.out⟩

end Go.Proofs.Ytcoaachajdomcaa
