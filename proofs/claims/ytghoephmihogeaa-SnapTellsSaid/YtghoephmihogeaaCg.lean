/- The document's answer: a row of a factor. -/
import Derived.Test.YtghoephmihogeaaCf
import Derived.Maps.AppendAt
namespace Go.Proofs.Ytghoephmihogeaa
open Go.RowKit Go.Shelf Lev

theorem take_map (g : Nat → Nat) (j : Nat) : ((List.range (j + 1)).map g).map (Value.float .f64) = ((List.range j).map g).map (Value.float .f64) ++ [.float .f64 (g j)] := by
  rw [List.range_succ, List.map_append, List.map_append]; rfl

theorem madeF_nil (base : Nat) (w : World) : MadeF base w (.slice none 0 0) [] := ⟨none, 0, rfl, ⟨FlR.nil _ _ _, Nat.le_refl _, by decide⟩, fun a ha => by cases ha⟩

end Go.Proofs.Ytghoephmihogeaa
