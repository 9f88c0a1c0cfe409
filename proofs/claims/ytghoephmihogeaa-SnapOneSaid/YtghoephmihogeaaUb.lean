/- Plain: what decoding says, case by case. -/
import Derived.Test.YtghoephmihogeaaUa
namespace Lev
theorem decE_head {l : List UInt8} (h : decH l = false) : decE l = 9 := by unfold decE; rw [if_pos h]
theorem decE_len {l : List UInt8} (h : decH l = true) (h2 : (l.length : Int) ≠ 6 + 8 * sizeI (lg l 1)) : decE l = 3 := by
  unfold decE; rw [if_neg (by rw [h]; decide), if_pos h2]
theorem decE_bad {l : List UInt8} (h : decH l = true) (h2 : (l.length : Int) = 6 + 8 * sizeI (lg l 1)) {k : Nat} (hk : k < decN l) (hb : getB l (6 + 8 * (k : Int)) = false) : decE l = 2 := by
  have hA : decA l (decN l) = false := by
    rw [← Bool.not_eq_true]
    unfold decA
    intro hall
    rw [List.all_eq_true] at hall
    have := hall k (List.mem_range.2 hk)
    rw [hb] at this
    cases this
  unfold decE; rw [if_neg (by rw [h]; decide), if_neg (by omega), if_pos hA]
theorem decA_of {l : List UInt8} {n : Nat} (h : ∀ k, k < n → getB l (6 + 8 * (k : Int)) = true) : decA l n = true := by
  unfold decA
  rw [List.all_eq_true]
  exact fun k hk => h k (List.mem_range.1 hk)
theorem decE_chk {l : List UInt8} (h : decH l = true) (h2 : (l.length : Int) = 6 + 8 * sizeI (lg l 1)) (hA : ∀ k, k < decN l → getB l (6 + 8 * (k : Int)) = true) (hc : checkS (lg l 1) (decX l (decN l)) (decR l) (decT l) = false) : decE l = 2 := by
  unfold decE; rw [if_neg (by rw [h]; decide), if_neg (by omega), if_neg (by rw [decA_of hA]; decide), if_pos hc]
theorem decE_ok {l : List UInt8} (h : decH l = true) (h2 : (l.length : Int) = 6 + 8 * sizeI (lg l 1)) (hA : ∀ k, k < decN l → getB l (6 + 8 * (k : Int)) = true) (hc : checkS (lg l 1) (decX l (decN l)) (decR l) (decT l) = true) : decE l = 0 ∧ decF l = ⟨lg l 1, decX l (decN l), decR l, decT l⟩ := by
  have e : decE l = 0 := by
    unfold decE; rw [if_neg (by rw [h]; decide), if_neg (by omega), if_neg (by rw [decA_of hA]; decide), if_neg (by rw [hc]; decide)]
  exact ⟨e, by unfold decF; rw [if_pos e]⟩
theorem decF_no {l : List UInt8} (h : decE l ≠ 0) : decF l = Fct.zero := by unfold decF; rw [if_neg h]
theorem decX_snoc (l : List UInt8) (k : Nat) : decX l (k + 1) = decX l k ++ [getN l (6 + 8 * k)] := by
  unfold decX; rw [List.range_succ, List.map_append]; rfl
theorem decX_len (l : List UInt8) (k : Nat) : (decX l k).length = k := by unfold decX; rw [List.length_map, List.length_range]
theorem decH_iff {l : List UInt8} : decH l = true ↔ 6 ≤ l.length ∧ lg l 0 = 81 ∧ 1 ≤ lg l 1 ∧ lg l 1 ≤ 6 := by
  unfold decH
  rw [decide_eq_true_eq]
  have := @size_zero (lg l 1)
  constructor
  · rintro ⟨h1, h2, h3⟩
    refine ⟨h1, h2, ?_, ?_⟩ <;> · rcases Decidable.em ((lg l 1 : Int) < 1 ∨ 6 < (lg l 1 : Int)) with h | h
                                  · exact absurd (this.2 h) h3
                                  · omega
  · rintro ⟨h1, h2, h3, h4⟩
    exact ⟨h1, h2, fun h => by rcases this.1 h with h | h <;> omega⟩
end Lev
