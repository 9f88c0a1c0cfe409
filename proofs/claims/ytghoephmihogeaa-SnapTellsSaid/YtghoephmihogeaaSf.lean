/- Contracts: the float of bytes. -/
import Derived.Test.YtghoephmihogeaaSe
import Derived.Laws.IdiomCopy
import Derived.Deep.RegionLaw
import Derived.Lib.LazyBuf
set_option linter.unusedVariables false
namespace Go.Proofs.Ytghoephmihogeaa
open Go.RowKit Go.Shelf Lev

attribute [local go_sem] run_fbits run_frombits

section
variable {P : Program}
/-- A string's first bytes are copied. -/
theorem run_copy_part (w : World) (dT sT ty elem : TypeId) (b o dLen dCap : Nat) (t : ByteArray)
    (hu : P.underlying dT = some (.slice elem)) (hz : ∀ w, (Go.sizeOf elem).run P w = .ok 1 w)
    (hc : ∀ j, j < Nat.min t.size dLen → (w.cell? ⟨b, o + j, none⟩).isSome = true) (hf : ∀ j, j < Nat.min t.size dLen → w.frozen? ⟨b, o + j, none⟩ = false) :
    (Builtin.copy_ #[dT, sT] ty #[.slice (some ⟨b, o, none⟩) dLen dCap, .string t]).run P w = .ok (goInt (Nat.min t.size dLen)) (w.setCells b o ((t.data.toList.map fun x => Value.int .u8 (x.toNat : Int)).take (Nat.min t.size dLen))) := by
  have hl : ((t.data.toList.map fun x => Value.int .u8 (x.toNat : Int)).take (Nat.min t.size dLen)).length = Nat.min t.size dLen := by
    rw [List.length_take, List.length_map, ← Lib.size_eq]
    exact Nat.min_eq_left (Nat.min_le_left _ _)
  have hst := run_storeCells_cells (P := P) b o ((t.data.toList.map fun x => Value.int .u8 (x.toNat : Int)).take (Nat.min t.size dLen)) 0 w (by rw [hl]; simpa using hc) (by rw [hl]; simpa using hf) (by
    intro v hv
    obtain ⟨x, _, rfl⟩ := List.mem_map.1 (List.mem_of_mem_take hv)
    rfl)
  simp only [Nat.add_zero] at hst
  simp only [Builtin.copy_]
  simp [run_underlying hu, Builtin.lenOf, Builtin.firstCells, hz]
  have e : Nat.min t.size dLen = min t.size dLen := rfl
  rw [e] at hst ⊢
  rw [hst]
  rfl
theorem step_copy_part {ops : Array Oper} {o : Oper} {a : Act} {w : World} {K : Act → World → Prop} {Q : Exit → Act → World → Prop} {E : Prop}
    (hg : o.guard = none) (d x : Operand) (dT sT : TypeId) (hop : o.op = Op.call { callee := Callee.builtin Builtin.copy, args := #[d, x], argTypes := #[dT, sT] })
    (elem : TypeId) (hu : P.underlying dT = some (.slice elem)) (hz : ∀ w, (Go.sizeOf elem).run P w = .ok 1 w)
    (b off dLen dCap : Nat) (hd : a.eval d = .slice (some ⟨b, off, none⟩) dLen dCap) (t : ByteArray) (hx : a.eval x = .string t)
    (hc : ∀ j, j < Nat.min t.size dLen → (w.cell? ⟨b, off + j, none⟩).isSome = true) (hf : ∀ j, j < Nat.min t.size dLen → w.frozen? ⟨b, off + j, none⟩ = false)
    (hK : K (a.put o.dst (goInt (Nat.min t.size dLen))) (w.setCells b off ((t.data.toList.map fun x => Value.int .u8 (x.toNat : Int)).take (Nat.min t.size dLen)))) :
    if Region.wanted o (yielded ops a.tmps) = true then Oper.wp P o a w K Q else E := by
  have hw : Region.wanted o (yielded ops a.tmps) = true := by simp [Region.wanted, hg]
  rw [if_pos hw]
  have hrun := run_copy_part (P := P) w dT sT o.type elem b off dLen dCap t hu hz hc hf
  unfold Oper.wp
  simp [execOp, hop, resolve, invoke, builtin, hd, hx, hrun, Result.andThen]
  exact hK
end

def setA (cs : Array Value) : Nat → List Value → Array Value
  | _, [] => cs
  | o, v :: r => setA (cs.setIfInBounds o v) (o + 1) r
theorem Bk.setCells {g : Nat} {t : TypeId} : ∀ (vs : List Value) (o : Nat) {w : World} {cs : Array Value}, Bk w g t cs → Bk (w.setCells g o vs) g t (setA cs o vs)
  | [], _, _, _, h => h
  | v :: r, o, _, _, h => Bk.setCells r (o + 1) (h.set o v)

/-- A byte of a string, as a value. -/
def bv (s : ByteArray) (i : Nat) : Value := .int .u8 (lg (bl s) i : Int)
theorem part_eq (s : ByteArray) (a n : Nat) (h : a + n ≤ s.size) : (((s.extract a s.size).data.toList.map fun x => Value.int .u8 (x.toNat : Int)).take n) = (List.range n).map (fun i => bv s (a + i)) := by
  refine List.ext_getElem ?_ (fun j h1 h2 => ?_)
  · rw [List.length_take, List.length_map, ← Lib.size_eq, ByteArray.size_extract, List.length_map, List.length_range]; omega
  · rw [List.length_map, List.length_range] at h2
    rw [List.getElem_take, List.getElem_map, List.getElem_map, List.getElem_range]
    unfold bv
    rw [lg_at s (a + j) (by omega)]
    have e : (s.extract a s.size).data.toList[j]'(by rw [← Lib.size_eq, ByteArray.size_extract]; omega) = s[a + j]'(by omega) := by
      rw [Array.getElem_toList]
      exact ByteArray.getElem_extract (by rw [ByteArray.size_extract]; omega)
    rw [e]
theorem setA8 (v0 v1 v2 v3 v4 v5 v6 v7 : Value) : setA #[.int .u8 0, .int .u8 0, .int .u8 0, .int .u8 0, .int .u8 0, .int .u8 0, .int .u8 0, .int .u8 0] 0 [v0, v1, v2, v3, v4, v5, v6, v7] = #[v0, v1, v2, v3, v4, v5, v6, v7] := by simp [setA]
theorem range8 (f : Nat → Value) : (List.range 8).map f = [f 0, f 1, f 2, f 3, f 4, f 5, f 6, f 7] := rfl
theorem part8 (s : ByteArray) (a : Nat) (h : a + 8 ≤ s.size) : (((s.extract a s.size).data.toList.map fun x => Value.int .u8 (x.toNat : Int)).take 8) = [bv s (a + 0), bv s (a + 1), bv s (a + 2), bv s (a + 3), bv s (a + 4), bv s (a + 5), bv s (a + 6), bv s (a + 7)] := by
  rw [part_eq s a 8 h, range8]

def SGetEnd (n : Nat) (w : World) (e : Ending) (w' : World) : Prop := e = .returned (.tuple #[.float .f64 (if numB n then n else 0), .bool (numB n)]) ∧ Below w.heap.size w w'
theorem or_byte {n c : Nat} (hn : n < 72057594037927936) (hc : c < 256) : bits .or .u64 ((n : Int) * 256) (c : Int) = ((n * 256 + c : Nat) : Int) := by
  have h := u64_or_nat (n * 256) c (by omega) (by omega)
  rw [Int.natCast_mul] at h
  rw [show ((256 : Nat) : Int) = 256 from rfl] at h
  rw [h]
  congr 1
  exact nat_join 8 (n * 256) c (Nat.mul_mod_left _ _) hc
theorem idx8 (f : Nat → Value) (k : Nat) (hk : k < 8) (w : World) : (Instr.index 49 (.agg #[f 0, f 1, f 2, f 3, f 4, f 5, f 6, f 7]) (.int .i64 (k : Int))).run Try.prog w = .ok (f k) w := by
  rcases (by omega : k = 0 ∨ k = 1 ∨ k = 2 ∨ k = 3 ∨ k = 4 ∨ k = 5 ∨ k = 6 ∨ k = 7) with e | e | e | e | e | e | e | e <;> subst e <;> kernel_rfl
theorem some8 {w : World} {g : Nat} {t : TypeId} (h : Bk w g t #[.int .u8 0, .int .u8 0, .int .u8 0, .int .u8 0, .int .u8 0, .int .u8 0, .int .u8 0, .int .u8 0]) {j : Nat} (hj : j < 8) : (w.drew.cell? ⟨g, 0 + j, none⟩).isSome = true := by
  have h1 := (h.drewN 1).cell (0 + j)
  have h2 : (w.drewN 1).cell? ⟨g, 0 + j, none⟩ = w.drew.cell? ⟨g, 0 + j, none⟩ := rfl
  rw [← h2, h1]
  rcases (by omega : j = 0 ∨ j = 1 ∨ j = 2 ∨ j = 3 ∨ j = 4 ∨ j = 5 ∨ j = 6 ∨ j = 7) with e | e | e | e | e | e | e | e <;> subst e <;> rfl

set_option maxRecDepth 100000 in
set_option maxHeartbeats 1000000 in
theorem sget_in (s : ByteArray) (a : Nat) (hs : s.size ≤ 1000) (h : a + 8 ≤ s.size) (w : World) :
    Calls Try.prog 11 #[.string s, .int .i64 (a : Int)] w (SGetEnd (bA s a 8) w) := by
  have hlt8 : bA s a 8 < 18446744073709551616 := getN_lt _ _
  have HN := Lib.hid (fun W => snumber_any (bA s a 8) hlt8 W)
  clear hlt8
  have t1 : decide ((a : Int) < 0) = false := decide_eq_false (by omega)
  have t2 : decide (s.size < a) = false := decide_eq_false (by omega)
  have hx : (s.extract a s.size).size = s.size - a := by rw [ByteArray.size_extract]; omega
  have hmin : Nat.min (s.extract a s.size).size 8 = 8 := by rw [hx]; exact Nat.min_eq_right (by omega)
  have HX := Lib.hid hmin
  clear hx hmin
  have HP := Lib.hid (part8 s a h)
  have t4 : (a : Int) ≤ (s.size : Int) := by omega
  have t5 : a ≤ s.size := by omega
  have t6 : (0 : Int) ≤ (a : Int) := by omega
  have t7 : ¬ s.size < a := by omega
  go_enter Try.func11, Try.ntmps11
  go_wp2
  have hz : ∀ w, (Go.sizeOf 5).run Try.prog w = .ok 1 w := Try.sizeOf5
  have hb0 := Bk.new w 49 #[.int .u8 0, .int .u8 0, .int .u8 0, .int .u8 0, .int .u8 0, .int .u8 0, .int .u8 0, .int .u8 0]
  have hl0 : Below w.heap.size w (w.alloc (.cells #[.int .u8 0, .int .u8 0, .int .u8 0, .int .u8 0, .int .u8 0, .int .u8 0, .int .u8 0, .int .u8 0] 49)) := (Below.refl _ _).alloc (Nat.le_refl _) _
  generalize w.alloc (.cells #[.int .u8 0, .int .u8 0, .int .u8 0, .int .u8 0, .int .u8 0, .int .u8 0, .int .u8 0, .int .u8 0] 49) = W at *
  have HB0 := Lib.hid hb0; have HL0 := Lib.hid hl0
  clear hb0 hl0
  go_region_law ((refine step_copy_part rfl _ _ _ _ rfl 5 Try.underlying50 hz w.heap.size 0 8 8 rfl (s.extract a s.size) rfl (fun j hj => some8 HB0.out (Nat.lt_of_lt_of_le hj (Nat.le_of_eq HX.out))) (fun j hj => (HB0.out.drewN 1).frozen _) ?_; rw [HX.out, HP.out]))
  have hb1 := Bk.setCells [bv s (a + 0), bv s (a + 1), bv s (a + 2), bv s (a + 3), bv s (a + 4), bv s (a + 5), bv s (a + 6), bv s (a + 7)] 0 (HB0.out.drewN 1)
  rw [setA8] at hb1
  have hl1 : Below w.heap.size w (W.drew.setCells w.heap.size 0 [bv s (a + 0), bv s (a + 1), bv s (a + 2), bv s (a + 3), bv s (a + 4), bv s (a + 5), bv s (a + 6), bv s (a + 7)]) := below_setCells (Nat.le_refl _) _ _ _ HL0.out.drew
  have hb2 : Bk (W.drew.setCells w.heap.size 0 [bv s (a + 0), bv s (a + 1), bv s (a + 2), bv s (a + 3), bv s (a + 4), bv s (a + 5), bv s (a + 6), bv s (a + 7)]) w.heap.size 49 _ := hb1
  clear hb1
  generalize W.drew.setCells w.heap.size 0 [bv s (a + 0), bv s (a + 1), bv s (a + 2), bv s (a + 3), bv s (a + 4), bv s (a + 5), bv s (a + 6), bv s (a + 7)] = W1 at *
  have c0 := hb2.cell 0; have c1 := hb2.cell 1; have c2 := hb2.cell 2; have c3 := hb2.cell 3; have c4 := hb2.cell 4; have c5 := hb2.cell 5; have c6 := hb2.cell 6; have c7 := hb2.cell 7
  have HL1 := Lib.hid hl1
  clear hl1 hb2
  go_wp2
  go_loop [7, 26] (fun n i => ∃ k : Nat, k ≤ 8 ∧ i = .int .i64 (k : Int) ∧ n = .int .u64 (bA s a k : Int)) (fun _ i => 8 - (intOf i).toNat)
  case atStart => exact ⟨0, by decide, rfl, rfl⟩
  case round =>
    obtain ⟨k, hk, rfl, rfl⟩ := hrel
    by_cases hlt : k < 8
    · have hb := bA_lt s a k hlt
      have hst : bA s a (k + 1) = bA s a k * 256 + lg (bl s) (a + k) := rfl
      have hor := or_byte (n := bA s a k) (c := lg (bl s) (a + k)) (by omega) (lg_lt _ _)
      obtain ⟨n1, hn1⟩ : ∃ n1, n1 = bA s a (k + 1) := ⟨_, rfl⟩
      rw [← hst, ← hn1] at hor
      have HN1 := Lib.hid hn1
      have hu := lg_lt (bl s) (a + k)
      have hix : ∀ w, (Instr.index 49 (.agg #[bv s a, bv s (a + 1), bv s (a + 2), bv s (a + 3), bv s (a + 4), bv s (a + 5), bv s (a + 6), bv s (a + 7)]) (.int .i64 (k : Int))).run Try.prog w = .ok (.int .u8 (lg (bl s) (a + k) : Int)) w := fun w => idx8 (fun i => bv s (a + i)) k hlt w
      clear hst hn1
      generalize bA s a k = n0 at *
      generalize lg (bl s) (a + k) = x0 at *
      go_wp2
      go_round
      case rel => exact ⟨k + 1, by omega, by go_num, by rw [HN1.out]⟩
      case measure => simp [intOf]; omega
    · obtain rfl : k = 8 := by omega
      have hlt8 : bA s a 8 < 18446744073709551616 := getN_lt _ _
      have HL := Lib.hid hlt8
      clear hlt8
      generalize bA s a 8 = n0 at *
      cases hn : numB n0
      · rw [hn] at HN
        have HN0 := Lib.hid hn
        clear hn
        go_wp2_with (go_at_call 25; refine (HN.out _).mono ?_; rintro e w' ⟨rfl, rfl⟩)
        go_ret2
        exact ⟨by rw [HN0.out]; rfl, HL1.out⟩
      · rw [hn] at HN
        have HN0 := Lib.hid hn
        clear hn
        go_wp2_with (go_at_call 25; refine (HN.out _).mono ?_; rintro e w' ⟨rfl, rfl⟩)
        go_ret2
        exact ⟨by rw [HN0.out]; rfl, HL1.out⟩

set_option maxRecDepth 100000 in
set_option maxHeartbeats 1000000 in
theorem sget_far (s : ByteArray) (i : Int) (hs : s.size ≤ 1000) (h : i < 0 ∨ s.size < i) (w : World) :
    Calls Try.prog 11 #[.string s, .int .i64 i] w fun e w' => e = .returned (.tuple #[.float .f64 0, .bool false]) ∧ Below w.heap.size w w' := by
  rcases h with h | h
  · go_enter Try.func11, Try.ntmps11
    go_wp2
    go_ret2
    exact ⟨rfl, Below.refl _ _⟩
  · have h2 : ¬ i < 0 := by omega
    go_enter Try.func11, Try.ntmps11
    go_wp2
    go_ret2
    exact ⟨rfl, Below.refl _ _⟩

set_option maxRecDepth 100000 in
set_option maxHeartbeats 1000000 in
theorem sget_few (s : ByteArray) (a : Nat) (hs : s.size ≤ 1000) (h : a ≤ s.size) (h2 : s.size < a + 8) (w : World) :
    Calls Try.prog 11 #[.string s, .int .i64 (a : Int)] w fun e w' => e = .returned (.tuple #[.float .f64 0, .bool false]) ∧ Below w.heap.size w w' := by
  have t1 : decide ((a : Int) < 0) = false := decide_eq_false (by omega)
  have t2 : decide (s.size < a) = false := decide_eq_false (by omega)
  have hx : (s.extract a s.size).size = s.size - a := by rw [ByteArray.size_extract]; omega
  have hmin : Nat.min (s.extract a s.size).size 8 = s.size - a := by rw [hx]; exact Nat.min_eq_left (by omega)
  have HX := Lib.hid hmin
  have HL8 := Lib.hid (show s.size - a < 8 from by omega)
  obtain ⟨m, hm⟩ : ∃ m, m = s.size - a := ⟨_, rfl⟩
  rw [← hm] at HX
  have HM := Lib.hid hm
  have t3 : ((m : Int) < 8) := by omega
  have t9 : m < 8 := by omega
  clear hx hmin hm
  have t4 : (a : Int) ≤ (s.size : Int) := by omega
  have t5 : a ≤ s.size := by omega
  have t6 : (0 : Int) ≤ (a : Int) := by omega
  have t7 : ¬ s.size < a := by omega
  obtain ⟨vs, hvs⟩ : ∃ vs, vs = ((s.extract a s.size).data.toList.map fun x => Value.int .u8 (x.toNat : Int)).take m := ⟨_, rfl⟩
  have HV := Lib.hid hvs
  clear hvs
  go_enter Try.func11, Try.ntmps11
  go_wp2
  have hz : ∀ w, (Go.sizeOf 5).run Try.prog w = .ok 1 w := Try.sizeOf5
  have hb0 := Bk.new w 49 #[.int .u8 0, .int .u8 0, .int .u8 0, .int .u8 0, .int .u8 0, .int .u8 0, .int .u8 0, .int .u8 0]
  have hl0 : Below w.heap.size w (w.alloc (.cells #[.int .u8 0, .int .u8 0, .int .u8 0, .int .u8 0, .int .u8 0, .int .u8 0, .int .u8 0, .int .u8 0] 49)) := (Below.refl _ _).alloc (Nat.le_refl _) _
  generalize w.alloc (.cells #[.int .u8 0, .int .u8 0, .int .u8 0, .int .u8 0, .int .u8 0, .int .u8 0, .int .u8 0, .int .u8 0] 49) = W at *
  have HB0 := Lib.hid hb0; have HL0 := Lib.hid hl0
  clear hb0 hl0
  go_region_law ((refine step_copy_part rfl _ _ _ _ rfl 5 Try.underlying50 hz w.heap.size 0 8 8 rfl (s.extract a s.size) rfl (fun j hj => some8 HB0.out (Nat.lt_trans (Nat.lt_of_lt_of_le hj (Nat.le_of_eq HX.out)) t9)) (fun j hj => (HB0.out.drewN 1).frozen _) ?_; rw [HX.out, ← HV.out]))
  have hl1 : Below w.heap.size w (W.drew.setCells w.heap.size 0 vs) := below_setCells (Nat.le_refl _) _ _ _ HL0.out.drew
  generalize W.drew.setCells w.heap.size 0 vs = W1 at *
  have HL1 := Lib.hid hl1
  clear hl1
  go_wp2
  go_ret2
  exact ⟨rfl, HL1.out⟩

/-- Get: the float of bytes. -/
theorem sget_any (s : ByteArray) (i : Int) (hs : s.size ≤ 1000) (w : World) :
    Calls Try.prog 11 #[.string s, .int .i64 i] w fun e w' => e = .returned (getV s i) ∧ Below w.heap.size w w' := by
  by_cases h1 : i < 0 ∨ s.size < i
  · exact calls_eq (sget_far s i hs h1 w) (getV_no (decide_eq_false (fun h => by rw [bl_len] at h; omega)))
  · obtain ⟨a, rfl⟩ : ∃ a : Nat, i = a := ⟨i.toNat, by omega⟩
    by_cases h2 : a + 8 ≤ s.size
    · exact calls_eq (sget_in s a hs h2 w) (getV_in h2)
    · exact calls_eq (sget_few s a hs (by omega) (by omega) w) (getV_no (decide_eq_false (fun h => by rw [bl_len] at h; omega)))

end Go.Proofs.Ytghoephmihogeaa
