/- Contracts: the document's bytes of a float. -/
import Derived.Test.YtghoephmihogeaaSc
namespace Go.Proofs.Ytghoephmihogeaa
open Go.RowKit Go.Shelf Lev

attribute [local go_sem] run_fbits run_frombits

theorem byte_sh (b k : Nat) (hk : k < 8) : (b : Int) / 2 ^ (56 - 8 * k) % 256 = (wB b k : Int) := by
  unfold wB
  have e : (2 : Nat) ^ (56 - 8 * k) = 256 ^ (7 - k) := by
    rw [show (256 : Nat) = 2 ^ 8 from rfl, ← Nat.pow_mul]; congr 1; omega
  rw [← e, Int.natCast_emod, Int.natCast_ediv, Int.natCast_pow]; rfl
theorem put8_cells (b : Nat) : Lib.byteCells (put8 b) = (List.range 8).map (fun j => Value.int .u8 (wB b j : Int)) := by
  unfold Lib.byteCells put8
  rw [List.map_map]
  refine List.map_congr_left (fun j _ => ?_)
  show Value.int .u8 ((UInt8.ofNat (wB b j)).toNat : Int) = _
  rw [UInt8.toNat_ofNat', Nat.mod_eq_of_lt (wB_lt b j)]
/-- A row of the call's own, of bytes, as a string. -/
theorem own_string {w : World} {base : Nat} {v : Value} {l : List UInt8} (h : w.ownsRow base 5 1 v l.length (Lib.byteCells l)) (h0 : 0 < l.length) :
    (convert 50 9 v).run Try.prog w = .ok (.string ⟨l.toArray⟩) w := by
  rcases h.2 with ⟨_, h1⟩ | ⟨g, cap, cur, rfl, hb, hg, hn, hc, _, _⟩
  · omega
  · refine run_convert_bytes_back (P := Try.prog) w 50 9 5 ⟨g, 0, none⟩ cap l Try.underlying50 Try.underlying5 Try.underlying9 (fun j hj => ?_)
    refine h.cells (g := g) rfl j _ ?_
    unfold Lib.byteCells
    rw [List.getElem?_map, List.getElem?_eq_getElem hj]; rfl
theorem bytes1 (x : Int) : ∀ u ∈ [Value.int .u8 x], u.oneCell' = true := by intro u hu; rw [List.mem_singleton] at hu; subst hu; rfl
theorem own_slice {w : World} {base n : Nat} {e : TypeId} {v : Value} {xs : List Value} (h : w.ownsRow base e 1 v n xs) (h0 : 0 < n) : ∃ g cap, v = .slice (some ⟨g, 0, none⟩) n cap := by
  rcases h.2 with ⟨_, h1⟩ | ⟨g, cap, cur, hv, _⟩
  · omega
  · exact ⟨g, cap, hv⟩

set_option maxRecDepth 100000 in
set_option maxHeartbeats 1000000 in
theorem rput_yes (b : Nat) (hb : b < 18446744073709551616) (hf : numB b = true) (w : World) :
    Calls Try.prog 14 #[.float .f64 b] w fun e w' => e = .returned (.string ⟨(put8 b).toArray⟩) ∧ Below w.heap.size w w' := by
  have HN := Lib.hid (rnumber_any b hb w)
  rw [hf] at HN
  clear hf
  obtain ⟨i0, hi, hz0, hz1, hz2⟩ := info_parts infoByte
  go_enter Try.func14, Try.ntmps14
  go_wp2_with (go_at_call 26; refine HN.out.mono ?_; rintro e w' ⟨rfl, rfl⟩)
  go_loopw [4, 5] (fun v i wr => ∃ k : Nat, k ≤ 8 ∧ i = .int .i64 (k : Int) ∧ wr.ownsRow w.heap.size 5 1 v k ((List.range k).map (fun j => Value.int .u8 (wB b j : Int))) ∧ Below w.heap.size w wr) (fun _ i _ => 8 - (intOf i).toNat)
  case atStart => exact ⟨0, by decide, rfl, World.ownsRow_nil _ _ _ _, Below.refl _ _⟩
  case round =>
    obtain ⟨k, hk, rfl, hown, hbel⟩ := hrel
    by_cases hlt : k < 8
    · have HB := Lib.hid hbel; have HSZ := Lib.hid hbel.size
      have hby := byte_sh b k hlt
      have HBY := Lib.hid hby
      clear hby
      go_wp2_with (at_builtin; refine wpList_append_own _ rfl _ _ 50 rfl w.heap.size 5 i0 (.int .u8 0) 1 1 Try.underlying50 hi hz0 hz1 hz2 rfl (by decide) _ _ _ rfl (hown.alloc _) ⟨wr.heap.size, 0, none⟩ 1 1 [.int .u8 ((b : Int) / 2 ^ (56 - 8 * k) % 256)] rfl rfl (cell_one_new _ _ _) (bytes1 _) (by unfold maxLen; omega) (by omega) (by have := HSZ.out; simp; omega) ?_; intro v' w1 hown' hgrow _)
      go_roundw
      case rel =>
        refine ⟨k + 1, by omega, by go_num, ?_, (hbel.alloc HSZ.out _).grown hgrow (by have := HSZ.out; simp; omega) (own_from hown)⟩
        rw [List.range_succ, List.map_append, List.map_singleton, ← HBY.out]
        exact hown'
      case measure => simp [intOf]; omega
    · obtain rfl : k = 8 := by omega
      obtain ⟨g, cap, rfl⟩ := own_slice hown (by decide)
      rw [← put8_cells b] at hown
      have hcv := own_string (l := put8 b) (by rw [put8_len]; exact hown) (by rw [put8_len]; decide)
      have BL := Lib.hid hbel
      clear hbel hown
      go_wp2
      go_ret
      exact ⟨rfl, BL.out⟩

set_option maxRecDepth 100000 in
set_option maxHeartbeats 1000000 in
theorem rput_no (b : Nat) (hb : b < 18446744073709551616) (hf : numB b = false) (w : World) :
    Calls Try.prog 14 #[.float .f64 b] w fun e w' => e = .returned (.string ⟨#[]⟩) ∧ Below w.heap.size w w' := by
  have HN := Lib.hid (rnumber_any b hb w)
  rw [hf] at HN
  clear hf
  go_enter Try.func14, Try.ntmps14
  go_wp2_with (go_at_call 26; refine HN.out.mono ?_; rintro e w' ⟨rfl, rfl⟩)
  go_ret
  exact ⟨rfl, Below.refl _ _⟩
/-- The document's Put. -/
theorem rput_any (b : Nat) (hb : b < 18446744073709551616) (w : World) :
    Calls Try.prog 14 #[.float .f64 b] w fun e w' => e = .returned (.string ⟨(putL b).toArray⟩) ∧ Below w.heap.size w w' := by
  unfold putL
  by_cases h : fin b
  · rw [if_pos h]; exact rput_yes b hb (decide_eq_true h) w
  · rw [if_neg h]; exact rput_no b hb (decide_eq_false h) w

end Go.Proofs.Ytghoephmihogeaa
