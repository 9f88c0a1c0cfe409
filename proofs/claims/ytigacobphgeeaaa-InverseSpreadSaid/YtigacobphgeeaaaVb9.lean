/- Contracts of package stats: add, end. -/
import Derived.Test.YtigacobphgeeaaaVa9
import Derived.Test.YtigacobphgeeaaaC9
import Derived.Test.YtigacobphgeeaaaFj9
set_option linter.unusedVariables false
namespace Go.Proofs.Ytigacobphgeeaaa
open Go.RowKit Go.Shelf Lev

attribute [local go_sem] run_store_float

set_option maxHeartbeats 1000000 in
theorem sadd_any (b s x q r : Nat) (w : World) (hc : w.cell? ⟨b, 0, none⟩ = some (.float .f64 s)) (hf : w.frozen? ⟨b, 0, none⟩ = false) (h1 : D.mul x x = some q) (h2 : D.add s q = some r) :
    Calls Try.prog 89 #[.pointer (some ⟨b, 0, none⟩), .float .f64 x] w fun e w' => e = .returned (.tuple #[]) ∧ w' = w.setCell ⟨b, 0, none⟩ (.float .f64 r) := by
  have g1 : floatBits .mul .f64 x x = some q := h1
  have g2 : floatBits .add .f64 s q = some r := h2
  have r1 := fun (w : World) => run_float_arith (P := Try.prog) w .mul 29 .f64 _ _ _ g1
  have r2 := fun (w : World) => run_float_arith (P := Try.prog) w .add 29 .f64 _ _ _ g2
  clear h1 h2 g1 g2
  go_enter Try.func89, Try.ntmps89
  go_wp2
  go_end0
  exact ⟨rfl, rfl⟩

set_option maxHeartbeats 1000000 in
theorem send_any (b s x q r : Nat) (z : Value) (T : TypeId) (w : World) (hb : Bk w b T #[.float .f64 s, z]) (h1 : D.mul x x = some q) (h2 : D.add s q = some r) :
    Calls Try.prog 91 #[.pointer (some ⟨b, 0, none⟩), .float .f64 x] w fun e w' => e = .returned (.tuple #[]) ∧ w' = (w.setCell ⟨b, 1, none⟩ (.float .f64 q)).setCell ⟨b, 0, none⟩ (.float .f64 r) := by
  have g1 : floatBits .mul .f64 x x = some q := h1
  have r1 := fun (w : World) => run_float_arith (P := Try.prog) w .mul 29 .f64 _ _ _ g1
  have c0 : w.cell? ⟨b, 0, none⟩ = some (.float .f64 s) := hb.cell 0
  have c1 : w.cell? ⟨b, 1, none⟩ = some z := hb.cell 1
  have f0 := hb.frozen 0
  have f1 := hb.frozen 1
  have hb1 := hb.set 1 (.float .f64 q)
  have HA := Lib.hid (sadd_any b s x q r (w.setCell ⟨b, 1, none⟩ (.float .f64 q)) (hb1.cell 0) (hb1.frozen 0) h1 h2)
  clear h1 h2 g1 hb hb1
  go_enter Try.func91, Try.ntmps91
  go_wp2_with fail
  refine HA.out.mono ?_
  rintro e w' ⟨rfl, rfl⟩
  go_wp2
  go_end0
  exact ⟨rfl, rfl⟩

end Go.Proofs.Ytigacobphgeeaaa
