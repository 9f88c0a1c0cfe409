/- Plain texts, laid as one. -/
import Derived.Test.YtigacobphgeeaaaC9
import Derived.Test.YtigacobphgeeaaaB9
import Derived.Test.YtigacobphgeeaaaT9
/- Contracts of package kern and of the document's answers for layer 5: All, fit, the counter. -/
namespace Go.Proofs.Ytigacobphgeeaaa
open Go.RowKit Go.Shelf Lev

attribute [local go_sem] order_lt order_gt order_eq order_ne flt_or_feq flt_or_feq' run_store_float

theorem run_sqrt {b r : Nat} (h : D.sqrt b = some r) (w : World) : (callFunc 79 #[.float .f64 b]).run Try.prog w = .ok (.value (.float .f64 r)) w := by
  rw [run_callFunc_extern Try.func79 (by kernel_rfl) (by kernel_rfl) (by kernel_rfl) (e := Extern.MathSqrt.sqrt) (by kernel_rfl)]
  have h' : FloatKind.f64.format.sqrt b = some r := h
  have e : Extern.MathSqrt.sqrt #[.float .f64 b] = (match FloatKind.f64.format.sqrt b with
    | some r => pure (.float .f64 r)
    | none => do pure (.float .f64 (← choose (.nanBits .f64 b b)))) := rfl
  rw [h'] at e
  rw [e]
  rfl

set_option maxHeartbeats 400000 in
theorem sqrt_any (b r : Nat) (h : D.sqrt b = some r) (w : World) :
    Calls Try.prog 48 #[.float .f64 b] w fun e w' => e = .returned (.float .f64 r) ∧ w = w' := by
  have hs := fun w => run_sqrt h w
  clear h
  go_enter Try.func48, Try.ntmps48
  go_wp2
  go_ret
  exact ⟨rfl, rfl⟩

theorem allIn_no {xs : List Nat} {k : Nat} (hk : k < xs.length) (h : inS (ge xs k) = false) : allIn xs = false := by
  unfold allIn
  rw [List.all_eq_false]
  refine ⟨xs[k], List.getElem_mem hk, ?_⟩
  unfold ge at h
  rw [List.getElem?_eq_getElem hk] at h
  simpa using h
theorem allIn_yes {xs : List Nat} (h : ∀ k, k < xs.length → inS (ge xs k) = true) : allIn xs = true := by
  unfold allIn
  rw [List.all_eq_true]
  intro x hx
  rw [List.mem_iff_getElem] at hx
  obtain ⟨k, hk, rfl⟩ := hx
  have := h k hk
  unfold ge at this
  rw [List.getElem?_eq_getElem hk] at this
  exact this

end Go.Proofs.Ytigacobphgeeaaa

/- Contracts of package kern: the counter, Sum, Dot. -/
namespace Go.Proofs.Ytigacobphgeeaaa
open Go.RowKit Go.Shelf Lev

attribute [local go_sem] order_lt order_gt order_eq order_ne flt_or_feq flt_or_feq' run_store_float

end Go.Proofs.Ytigacobphgeeaaa

/- Contracts of package kern: Norm. -/
namespace Go.Proofs.Ytigacobphgeeaaa
open Go.RowKit Go.Shelf Lev

attribute [local go_sem] order_lt order_gt order_eq order_ne flt_or_feq flt_or_feq' run_store_float

theorem rg_pos {x : Nat} (hx : x ≤ INF) : rg x = x := by have := INF_eq; unfold rg; omega
theorem ord_pos {x : Nat} (hx : x ≤ INF) : ord x = x := by have := ord_rg x; rw [rg_pos hx] at this; exact this
theorem max2_pos {x y : Nat} (hx : x ≤ INF) (hy : y ≤ INF) : Builtin.max2 (.float .f64 x) (.float .f64 y) = pure (.float .f64 (max x y)) := by
  have e : Builtin.max2 (.float .f64 x) (.float .f64 y) = (match FloatKind.f64.format.order x y with
    | none => do pure (.float .f64 (← choose (.nanMinMax .f64 true x y)))
    | some .lt => pure (.float .f64 y)
    | some .gt => pure (.float .f64 x)
    | some .eq => pure (.float .f64 (if (FloatKind.f64.decode x).neg then y else x))) := rfl
  have ho := order_cases x y
  rw [rg_pos hx, rg_pos hy, ord_pos hx, ord_pos hy] at ho
  have e0 : FloatKind.f64.format.order x y = D.order x y := rfl
  rw [e, e0]
  rcases ho with ⟨h, hn⟩ | ⟨hc, ⟨h, ho⟩ | ⟨h, ho⟩ | ⟨h, ho⟩⟩
  · exact absurd ⟨hx, hy⟩ hn
  · have hm : max x y = y := by omega
    rw [h, hm]
  · have : x = y := by omega
    subst this
    rw [h, Nat.max_self]
    show pure (Value.float FloatKind.f64 (if _ then x else x)) = _
    rw [ite_self]
  · have hm : max x y = x := by omega
    rw [h, hm]

theorem run_max_pos {P : Program} {x y : Nat} (hx : x ≤ INF) (hy : y ≤ INF) (w : World) (ts : Array TypeId) (t : TypeId) :
    (Builtin.max_ ts t #[.float .f64 x, .float .f64 y]).run P w = .ok (.float .f64 (max x y)) w := by
  have h := max2_pos hx hy
  simp [Builtin.max_, h]

end Go.Proofs.Ytigacobphgeeaaa

/- Contracts of package kern: Axpy. -/
namespace Go.Proofs.Ytigacobphgeeaaa
open Go.RowKit Go.Shelf Lev

attribute [local go_sem] order_lt order_gt order_eq order_ne flt_or_feq flt_or_feq' run_store_float

theorem SlArg.made {w : World} {g n : Nat} {t : TypeId} {C : Array Value} {f : Nat → Nat} (h : Bk w g t C) (hn : n ≤ 9223372036854775807) (hc : ∀ i, i < n → C[i]? = some (.float .f64 (f i))) (hf : ∀ i, i < n → f i < 18446744073709551616) : SlArg w (some ⟨g, 0, none⟩) ((List.range n).map f) n := by
  refine ⟨⟨fun x hx => ?_, fun hl => ⟨g, 0, rfl, h.lt, fun j hj => ?_⟩⟩, by simp, hn⟩
  · rw [List.mem_map] at hx
    obtain ⟨i, hi, rfl⟩ := hx
    exact hf i (by simpa using hi)
  · simp at hj
    rw [Nat.zero_add, h.cell, hc j hj]
    simp [hj]

end Go.Proofs.Ytigacobphgeeaaa

/- live of layer 5. -/
namespace Lev
theorem kw1 : dotF [4607182418800017408, 4611686018427387904, 4613937818241073152] [4616189618054758400, 13840687554816376832, 4618441417868443648] = 4622945017495814144 := by decide +kernel
theorem kw2 : fitS [4607182418800017408, 4611686018427387904, 4613937818241073152] [4616189618054758400, 13840687554816376832, 4618441417868443648] = true := by decide +kernel
theorem kw3 : dotF [4607182418800017408] [] = 0 := by decide +kernel
theorem kw4 : fitS [4607182418800017408] [] = false := by decide +kernel
theorem kw5 : normF [4613937818241073152, 13839561654909534208] = 4617315517961601024 := by decide +kernel
theorem kw6 : allIn [4613937818241073152, 13839561654909534208] = true := by decide +kernel
theorem kw7 : makeF false 1 400 = 6408622269748215808 := by decide +kernel
theorem kw8 : normF [6408622269748215808, 0] = 6408622269748215808 := by decide +kernel
theorem kw9 : allIn [6408622269748215808, 0] = true := by decide +kernel
theorem kw10 : sumF [4607182418800017408, 13835058055282163712] = 4613937818241073152 := by decide +kernel
theorem kw11 : allIn [4607182418800017408, 13835058055282163712] = true := by decide +kernel
theorem kw12 : axF 4611686018427387904 [4607182418800017408, 4613937818241073152] [4617315517961601024, 4619567317775286272] = [4619567317775286272, 4623507967449235456] := by decide +kernel
theorem kw13 : axB 4611686018427387904 [4607182418800017408, 4613937818241073152] [4617315517961601024, 4619567317775286272] = true := by decide +kernel
theorem kw14 : makeF false 1 401 = 6413125869375586304 := by decide +kernel
theorem kw15 : allIn [4607182418800017408, 6413125869375586304] = false := by decide +kernel
theorem kw16 : allIn [] = true := rfl
theorem kc1 : feq 4622945017495814144 4622945017495814144 = true := by decide
theorem kc2 : feq 4617315517961601024 4617315517961601024 = true := by decide
theorem kc3 : feq 6408622269748215808 6408622269748215808 = true := by decide
theorem kc4 : feq 4613937818241073152 4613937818241073152 = true := by decide
theorem kc5 : feq 4619567317775286272 4619567317775286272 = true := by decide
theorem kc6 : feq 4623507967449235456 4623507967449235456 = true := by decide
end Lev
namespace Go.Proofs.Ytigacobphgeeaaa
open Go.RowKit Go.Shelf Lev

attribute [local go_sem] order_lt order_gt order_eq order_ne flt_or_feq flt_or_feq' kc1 kc2 kc3 kc4 kc5 kc6

theorem slLit {W : World} {g : Nat} {t : TypeId} {xs : List Nat} (h : Bk W g t (xs.map (Value.float .f64)).toArray) (hx : ∀ x ∈ xs, x < 18446744073709551616) (hl : xs.length ≤ 9223372036854775807) : SlArg W (some ⟨g, 0, none⟩) xs xs.length := by
  refine ⟨⟨hx, fun _ => ⟨g, 0, rfl, h.lt, fun j hj => ?_⟩⟩, Nat.le_refl _, hl⟩
  rw [Nat.zero_add, h.cell]
  simp [hj]

end Go.Proofs.Ytigacobphgeeaaa
