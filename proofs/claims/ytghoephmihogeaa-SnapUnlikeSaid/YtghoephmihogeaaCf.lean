/- Contracts of package tri: At, New, Get. -/
import Derived.Test.YtghoephmihogeaaCe
import Derived.Test.YtghoephmihogeaaT
import Derived.Test.YtghoephmihogeaaMc
namespace Go.Proofs.Ytghoephmihogeaa
open Go.RowKit Go.Shelf Lev

theorem rat_any (C i j : Int) (w : World) :
    Calls Try.prog 44 #[.int .i64 C, .int .i64 i, .int .i64 j] w fun e w' => e = .returned (.tuple #[.int .i64 (atI C i j), .bool (atB C i j)]) ∧ w = w' := by
  cases h : atB C i j
  · have hI : atI C i j = 0 := by unfold atI; rw [h, if_neg (by decide)]
    rw [hI]
    have h' : ¬ (1 ≤ C ∧ C ≤ 6 ∧ 0 ≤ i ∧ i ≤ j ∧ j ≤ C) := by unfold atB at h; simpa using h
    refine rat_no C i j ?_ w
    by_cases h2 : C < 1 ∨ 6 < C
    · left; unfold sizeI; rw [if_pos h2]
    · omega
  · obtain ⟨h1, h2, h3, h4, h5⟩ := atB_iff.1 h
    have hI : atI C i j = (st (C + 1).toNat i.toNat : Int) + (j - i) := by unfold atI; rw [if_pos h]
    rw [hI]
    exact rat_yes C i j (C + 1).toNat (by omega) h1 h2 h3 h4 h5 w

theorem info_f64' : (Try.prog.info? 22).map (fun i => (i.zero, i.size, i.bytes)) = some (some (.float .f64 0), 1, 8) := by kernel_rfl

end Go.Proofs.Ytghoephmihogeaa
