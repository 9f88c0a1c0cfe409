/- Contracts: a float's bytes. -/
import Derived.Test.YtghoephmihogeaaSb
import Derived.Laws.IdiomStrings
namespace Go.Proofs.Ytghoephmihogeaa
open Go.RowKit Go.Shelf Lev

attribute [local go_sem] run_fbits run_frombits

def cellsP (b k : Nat) : Array Value := ((List.range 8).map (fun j => if 8 - k ≤ j then Value.int .u8 (wB b j : Int) else .int .u8 0)).toArray
theorem cellsP_0 (b : Nat) : cellsP b 0 = #[.int .u8 0, .int .u8 0, .int .u8 0, .int .u8 0, .int .u8 0, .int .u8 0, .int .u8 0, .int .u8 0] := rfl
theorem cellsP_step (b k : Nat) (hk : k < 8) : (cellsP b k).setIfInBounds (7 - k) (.int .u8 (wB b (7 - k) : Int)) = cellsP b (k + 1) := by
  rcases (by omega : k = 0 ∨ k = 1 ∨ k = 2 ∨ k = 3 ∨ k = 4 ∨ k = 5 ∨ k = 6 ∨ k = 7) with h | h | h | h | h | h | h | h <;> subst h <;> rfl
theorem cellsP_get (b k j : Nat) (hj : j < 8) : ∃ v, (cellsP b k)[j]? = some (.int .u8 v) := by
  unfold cellsP
  rw [List.getElem?_toArray, List.getElem?_map, List.getElem?_range hj]
  by_cases h : 8 - k ≤ j
  · exact ⟨_, by rw [Option.map_some, if_pos h]⟩
  · exact ⟨_, by rw [Option.map_some, if_neg h]⟩
theorem byte_of (b k : Nat) (hk : k < 8) : ((b / 256 ^ k : Nat) : Int) % 256 = (wB b (7 - k) : Int) := by
  unfold wB
  rw [show 7 - (7 - k) = k from by omega]
  omega

theorem byte_of' (b k : Nat) (hk : k < 8) : (b : Int) / 256 ^ k % 256 = (wB b (7 - k) : Int) := by
  rw [← byte_of b k hk]
  rw [Int.natCast_ediv, Int.natCast_pow]; rfl
theorem conv_put (b g : Nat) (w : World) (c : Nat) (h : Bk w g 49 (cellsP b 8)) : (convert 50 9 (.slice (some ⟨g, 0, none⟩) 8 c)).run Try.prog w = .ok (.string ⟨(put8 b).toArray⟩) w := by
  have hl := put8_len b
  have key := run_convert_bytes_back (P := Try.prog) w 50 9 5 ⟨g, 0, none⟩ c (put8 b) Try.underlying50 Try.underlying5 Try.underlying9 (fun j hj => by
    have h1 := h.cell j
    rw [show (⟨g, 0, none⟩ : Addr).add j = ⟨g, j, none⟩ from by unfold Addr.add; split <;> simp_all]
    rw [h1]
    unfold cellsP
    rw [List.getElem?_toArray, List.getElem?_map, List.getElem?_range (by omega)]
    have h2 := put8_get (b := b) (i := j) (by omega)
    unfold lg at h2
    rw [List.getElem?_eq_getElem hj] at h2
    rw [Option.map_some, if_pos (by omega), ← h2]; rfl)
  rw [hl] at key
  exact key
theorem shr_of (b k : Nat) : Value.int .u64 ((b : Int) / 256 ^ k / 256) = .int .u64 ((b / 256 ^ (k + 1) : Nat) : Int) := by
  congr 1
  rw [Nat.pow_succ, ← Nat.div_div_eq_div_mul, Int.natCast_ediv, Int.natCast_ediv, Int.natCast_pow]; rfl

set_option maxRecDepth 100000 in
set_option maxHeartbeats 1000000 in
theorem sput_yes (b : Nat) (hb : b < 18446744073709551616) (hf : numB b = true) (w : World) :
    Calls Try.prog 13 #[.float .f64 b] w fun e w' => e = .returned (.string ⟨(put8 b).toArray⟩) ∧ Below w.heap.size w w' := by
  have HN := Lib.hid (snumber_any b hb w)
  rw [hf] at HN
  clear hf
  go_enter Try.func13, Try.ntmps13
  go_wp2_with (go_at_call 25; refine HN.out.mono ?_; rintro e w' ⟨rfl, rfl⟩)
  go_loopw [4, 11] (fun n i wr => ∃ k : Nat, k ≤ 8 ∧ i = .int .i64 (k : Int) ∧ n = .int .u64 ((b / 256 ^ k : Nat) : Int) ∧ Bk wr w.heap.size 49 (cellsP b k) ∧ Below w.heap.size w wr) (fun _ i _ => 8 - (intOf i).toNat)
  case atStart => exact ⟨0, by decide, rfl, by simp, Bk.new _ _ _, (Below.refl _ _).alloc (Nat.le_refl _) _⟩
  case round =>
    obtain ⟨k, hk, rfl, rfl, hbk, hbl⟩ := hrel
    by_cases hlt : k < 8
    · obtain ⟨v0, hv0⟩ := cellsP_get b k (7 - k) (by omega)
      have hcell := (hbk.cell (7 - k)).trans hv0
      have hfz := hbk.frozen (7 - k)
      have BK := Lib.hid hbk; have BL := Lib.hid hbl
      clear hbk hbl hv0
      go_wp2_with fail
      go_roundw
      case rel => exact ⟨k + 1, by omega, by go_num, shr_of b k, by rw [byte_of' b k hlt, ← cellsP_step b k hlt]; exact BK.out.set _ _, BL.out.setCell (Nat.le_refl _) _⟩
      case measure => simp [intOf]; omega
    · obtain rfl : k = 8 := by omega
      have hconv := conv_put b _ wr 8 hbk
      have BL := Lib.hid hbl
      clear hbk hbl
      go_wp2
      go_ret
      exact ⟨rfl, BL.out⟩

set_option maxRecDepth 100000 in
set_option maxHeartbeats 1000000 in
theorem sput_no (b : Nat) (hb : b < 18446744073709551616) (hf : numB b = false) (w : World) :
    Calls Try.prog 13 #[.float .f64 b] w fun e w' => e = .returned (.string ⟨#[]⟩) ∧ Below w.heap.size w w' := by
  have HN := Lib.hid (snumber_any b hb w)
  rw [hf] at HN
  clear hf
  go_enter Try.func13, Try.ntmps13
  go_wp2_with (go_at_call 25; refine HN.out.mono ?_; rintro e w' ⟨rfl, rfl⟩)
  go_ret
  exact ⟨rfl, Below.refl _ _⟩
/-- Put: a float's bytes. -/
theorem sput_any (b : Nat) (hb : b < 18446744073709551616) (w : World) :
    Calls Try.prog 13 #[.float .f64 b] w fun e w' => e = .returned (.string ⟨(putL b).toArray⟩) ∧ Below w.heap.size w w' := by
  unfold putL
  by_cases h : fin b
  · rw [if_pos h]; exact sput_yes b hb (decide_eq_true h) w
  · rw [if_neg h]; exact sput_no b hb (decide_eq_false h) w

end Go.Proofs.Ytghoephmihogeaa
