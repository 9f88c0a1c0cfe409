/- Contracts: the float of bytes, of the document. -/
import Derived.Test.YtghoephmihogeaaSd
set_option linter.unusedVariables false
namespace Go.Proofs.Ytghoephmihogeaa
open Go.RowKit Go.Shelf Lev

attribute [local go_sem] run_fbits run_frombits

def bl (s : ByteArray) : List UInt8 := s.data.toList
theorem bl_len (s : ByteArray) : (bl s).length = s.size := by unfold bl; rw [Array.length_toList]; rfl
theorem lg_at (s : ByteArray) (i : Nat) (h : i < s.size) : lg (bl s) i = s[i].toNat := by
  unfold lg bl
  rw [List.getElem?_eq_getElem (by rw [Array.length_toList]; exact h)]
  rfl
def getV (s : ByteArray) (i : Int) : Value := .tuple #[.float .f64 (getF (bl s) i), .bool (getB (bl s) i)]

set_option maxRecDepth 100000 in
set_option maxHeartbeats 1000000 in
theorem rget_far (s : ByteArray) (i : Int) (hs : s.size ≤ 1000) (h : i < 0 ∨ s.size < i) (w : World) :
    Calls Try.prog 12 #[.string s, .int .i64 i] w fun e w' => e = .returned (.tuple #[.float .f64 0, .bool false]) ∧ w = w' := by
  rcases h with h | h
  · go_enter Try.func12, Try.ntmps12
    go_wp2
    go_ret2
    exact ⟨rfl, rfl⟩
  · have h2 : ¬ i < 0 := by omega
    go_enter Try.func12, Try.ntmps12
    go_wp2
    go_ret2
    exact ⟨rfl, rfl⟩

set_option maxRecDepth 100000 in
set_option maxHeartbeats 1000000 in
theorem rget_few (s : ByteArray) (a : Nat) (hs : s.size ≤ 1000) (h : a ≤ s.size) (h2 : s.size < a + 8) (w : World) :
    Calls Try.prog 12 #[.string s, .int .i64 (a : Int)] w fun e w' => e = .returned (.tuple #[.float .f64 0, .bool false]) ∧ w = w' := by
  go_enter Try.func12, Try.ntmps12
  go_wp2
  go_ret2
  exact ⟨rfl, rfl⟩

def bA (s : ByteArray) (a k : Nat) : Nat := bN (fun i => lg (bl s) (a + i)) k
theorem bA_lt (s : ByteArray) (a k : Nat) (hk : k < 8) : bA s a k < 72057594037927936 := by
  have h := bN_lt (f := fun i => lg (bl s) (a + i)) (fun i => lg_lt _ _) k
  have h2 : 256 ^ k ≤ 256 ^ 7 := Nat.pow_le_pow_right (by decide) (by omega)
  exact Nat.lt_of_lt_of_le h h2
theorem bA_step (s : ByteArray) (a k : Nat) (h : a + k < s.size) : bA s a (k + 1) = bA s a k * 256 + s[a + k].toNat := by
  show bA s a k * 256 + lg (bl s) (a + k) = _
  rw [lg_at s (a + k) h]

def GetEnd (n : Nat) (w : World) (e : Ending) (w' : World) : Prop := e = .returned (.tuple #[.float .f64 (if numB n then n else 0), .bool (numB n)]) ∧ w = w'

set_option maxRecDepth 100000 in
set_option maxHeartbeats 1000000 in
theorem rget_in (s : ByteArray) (a : Nat) (hs : s.size ≤ 1000) (h : a + 8 ≤ s.size) (w : World) :
    Calls Try.prog 12 #[.string s, .int .i64 (a : Int)] w (GetEnd (bA s a 8) w) := by
  have hlt8 : bA s a 8 < 18446744073709551616 := getN_lt _ _
  have HN := Lib.hid (fun W => rnumber_any (bA s a 8) hlt8 W)
  clear hlt8
  have t1 : decide ((a : Int) < 0) = false := decide_eq_false (by omega)
  have t2 : decide (s.size < a) = false := decide_eq_false (by omega)
  have t3 : decide ((s.size : Int) - a < 8) = false := decide_eq_false (by omega)
  go_enter Try.func12, Try.ntmps12
  go_wp2
  go_loop [6, 7] (fun n i => ∃ k : Nat, k ≤ 8 ∧ i = .int .i64 (k : Int) ∧ n = .int .u64 (bA s a k : Int)) (fun _ i => 8 - (intOf i).toNat)
  case atStart => exact ⟨0, by decide, rfl, rfl⟩
  case round =>
    obtain ⟨k, hk, rfl, rfl⟩ := hrel
    by_cases hlt : k < 8
    · have hb := bA_lt s a k hlt
      have HST := Lib.hid (bA_step s a k (by omega))
      have hi : a + k < s.size := by omega
      have hu : s[a + k].toNat < 256 := UInt8.toNat_lt _
      generalize bA s a k = n0 at *
      go_wp2
      go_round
      case rel => exact ⟨k + 1, by omega, by go_num, by rw [HST.out]; rfl⟩
      case measure => simp [intOf]; omega
    · obtain rfl : k = 8 := by omega
      have hlt8 : bA s a 8 < 18446744073709551616 := getN_lt _ _
      have HL := Lib.hid hlt8
      clear hlt8
      generalize bA s a 8 = n0 at *
      cases hn : numB n0
      · rw [hn] at HN
        have HN0 := Lib.hid hn
        clear hn
        go_wp2_with (go_at_call 26; refine (HN.out _).mono ?_; rintro e w' ⟨rfl, rfl⟩)
        go_ret2
        exact ⟨by rw [HN0.out]; rfl, rfl⟩
      · rw [hn] at HN
        have HN0 := Lib.hid hn
        clear hn
        go_wp2_with (go_at_call 26; refine (HN.out _).mono ?_; rintro e w' ⟨rfl, rfl⟩)
        go_ret2
        exact ⟨by rw [HN0.out]; rfl, rfl⟩

theorem getV_no {s : ByteArray} {i : Int} (h : getB (bl s) i = false) : Value.tuple #[.float .f64 0, .bool false] = getV s i := by
  unfold getV getF; rw [h]; rfl
theorem getV_in {s : ByteArray} {a : Nat} (h : a + 8 ≤ s.size) : Value.tuple #[.float .f64 (if numB (bA s a 8) then bA s a 8 else 0), .bool (numB (bA s a 8))] = getV s (a : Int) := by
  have hB : getB (bl s) (a : Int) = numB (bA s a 8) := by
    unfold getB numB
    rw [decide_eq_decide, bl_len, Int.toNat_natCast]
    exact ⟨fun h => h.2.2, fun h' => ⟨by omega, by omega, h'⟩⟩
  unfold getV getF
  rw [hB, Int.toNat_natCast]; rfl
theorem calls_eq {P : Program} {f : FuncId} {a : Array Value} {w : World} {v v' : Value} {R : World → Prop} (h : Calls P f a w fun e w' => e = .returned v ∧ R w') (hv : v = v') : Calls P f a w fun e w' => e = .returned v' ∧ R w' := by rw [← hv]; exact h
/-- The document's Get. -/
theorem docget_any (s : ByteArray) (i : Int) (hs : s.size ≤ 1000) (w : World) :
    Calls Try.prog 12 #[.string s, .int .i64 i] w fun e w' => e = .returned (getV s i) ∧ w = w' := by
  by_cases h1 : i < 0 ∨ s.size < i
  · exact calls_eq (rget_far s i hs h1 w) (getV_no (decide_eq_false (fun h => by rw [bl_len] at h; omega)))
  · obtain ⟨a, rfl⟩ : ∃ a : Nat, i = a := ⟨i.toNat, by omega⟩
    by_cases h2 : a + 8 ≤ s.size
    · exact calls_eq (rget_in s a hs h2 w) (getV_in h2)
    · exact calls_eq (rget_few s a hs (by omega) (by omega) w) (getV_no (decide_eq_false (fun h => by rw [bl_len] at h; omega)))

end Go.Proofs.Ytghoephmihogeaa
