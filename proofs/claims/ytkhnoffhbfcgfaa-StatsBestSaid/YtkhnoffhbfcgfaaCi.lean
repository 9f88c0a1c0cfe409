/- A factor with a row set: tri.Set. -/
import Derived.Test.YtkhnoffhbfcgfaaCh
import Derived.StillTailTactics
import Derived.Laws.CopyOwn
namespace Lev
open Go
theorem splice_set {cur : List Value} {xs l : List Nat} {N i : Nat} (hcur : cur.take xs.length = xs.map (Value.float .f64)) (hlen : xs.length = st N N) (hi : i < N) (hl : l.length = N) :
    ∀ p, p < xs.length → (splice cur (st N i) ((l.drop i).map (Value.float .f64)))[p]? = some (.float .f64 (setP N i l xs p)) := by
  intro p hp
  have h1 := st_end hi
  rw [st_succ] at h1
  have hcl : xs.length ≤ cur.length := by
    have := congrArg List.length hcur
    rw [List.length_take, List.length_map] at this; omega
  have hold : cur[p]? = some (.float .f64 (xs[p]?.getD 0)) := by
    have h2 := congrArg (·[p]?) hcur
    simp only [List.getElem?_map] at h2
    rw [List.getElem?_take_of_lt hp, List.getElem?_eq_getElem hp] at h2
    rw [h2, List.getElem?_eq_getElem hp]; rfl
  have hcs : ((l.drop i).map (Value.float .f64)).length = N - i := by rw [List.length_map, List.length_drop, hl]
  unfold splice setP
  rw [st_succ, hcs]
  by_cases hin : st N i ≤ p ∧ p < st N i + (N - i)
  · rw [if_pos hin, List.getElem?_append_right (by rw [List.length_take]; omega), List.length_take, Nat.min_eq_left (by omega), List.getElem?_append_left (by rw [hcs]; omega), List.getElem?_map, List.getElem?_drop, List.getElem?_eq_getElem (by omega)]
    rfl
  · rw [if_neg hin]
    by_cases hlt : p < st N i
    · rw [List.getElem?_append_left (by rw [List.length_take]; omega), List.getElem?_take_of_lt hlt, hold]
    · rw [List.getElem?_append_right (by rw [List.length_take]; omega), List.length_take, Nat.min_eq_left (by omega), List.getElem?_append_right (by rw [hcs]; omega), hcs, List.getElem?_drop]
      have e : st N i + (N - i) + (p - st N i - (N - i)) = p := by omega
      rw [e, hold]
end Lev
namespace Go.Proofs.Ytkhnoffhbfcgfaa
open Go.RowKit Go.Shelf Lev

end Go.Proofs.Ytkhnoffhbfcgfaa
