/- Plain texts, laid as one. -/
import Derived.Test.YtigacobphgeeaaaY9
import Derived.Test.YtigacobphgeeaaaE9
import Derived.Test.YtigacobphgeeaaaT9
import Derived.Test.YtigacobphgeeaaaM9
/- Memory: boxes of dyads, kept over calls and stores. -/
set_option linter.unusedVariables false
namespace Lev
/-- A whole number of 2^-a, below 2^b. -/
def R (a b : Int) (x : Rat) : Prop := (∃ k : Int, x = (k : Rat) * pw (-a)) ∧ ab x < pw b
theorem R_zero (a b : Int) : R a b 0 := ⟨⟨0, by simp⟩, by rw [show ab (0 : Rat) = 0 from by decide +kernel]; exact pw_pos _⟩
theorem whole_pw {n : Int} (h : 0 ≤ n) : ∃ k : Int, pw n = (k : Rat) := by
  obtain ⟨m, rfl⟩ : ∃ m : Nat, n = m := ⟨n.toNat, by omega⟩
  exact ⟨((2 ^ m : Nat) : Int), by rw [pw_nat]; rfl⟩
theorem R_mono {a b c d : Int} {x : Rat} (h : R a b x) (h1 : a ≤ c) (h2 : b ≤ d) : R c d x := by
  obtain ⟨⟨k, hk⟩, hb⟩ := h
  have h3 := pw_le h2
  refine ⟨?_, by grind⟩
  obtain ⟨m, hm⟩ := whole_pw (n := c - a) (by omega)
  refine ⟨k * m, ?_⟩
  rw [hk, Rat.intCast_mul, ← hm, Rat.mul_assoc, ← pw_add]
  congr 2; omega
theorem R_neg {a b : Int} {x : Rat} (h : R a b x) : R a b (-x) := by
  obtain ⟨⟨k, hk⟩, hb⟩ := h
  exact ⟨⟨-k, by rw [hk, Rat.intCast_neg]; grind⟩, by rwa [ab_neg]⟩
theorem R_ab {a b : Int} {x : Rat} (h : R a b x) : R a b (ab x) := by
  unfold ab; split
  · exact R_neg h
  · exact h
theorem R_add {a b : Int} {x y : Rat} (h : R a b x) (h2 : R a b y) : R a (b + 1) (x + y) := by
  obtain ⟨⟨k, hk⟩, hb⟩ := h
  obtain ⟨⟨m, hm⟩, hc⟩ := h2
  refine ⟨⟨k + m, by rw [hk, hm, Rat.intCast_add]; grind⟩, ?_⟩
  rw [pw_double]
  have := ab_add x y
  grind
theorem R_sub {a b : Int} {x y : Rat} (h : R a b x) (h2 : R a b y) : R a (b + 1) (x - y) := by
  rw [show x - y = x + -y from by grind]
  exact R_add h (R_neg h2)
theorem R_mul {a b c d : Int} {x y : Rat} (h : R a b x) (h2 : R c d y) : R (a + c) (b + d) (x * y) := by
  obtain ⟨⟨k, hk⟩, hb⟩ := h
  obtain ⟨⟨m, hm⟩, hc⟩ := h2
  refine ⟨⟨k * m, by rw [hk, hm, Rat.intCast_mul, show -(a + c) = -a + -c from by omega, pw_add]; grind⟩, ?_⟩
  rw [ab_mul, pw_add]
  have h3 := ab_nonneg x
  have h4 := ab_nonneg y
  have h5 := pw_pos b
  have h6 := pw_pos d
  have h7 : ab x * ab y ≤ pw b * ab y := Rat.mul_le_mul_of_nonneg_right (Rat.le_of_lt hb) h4
  have h8 : pw b * ab y < pw b * pw d := Rat.mul_lt_mul_of_pos_left hc h5
  grind
theorem R_Q {a b : Int} {x : Rat} (h : R a b x) (h1 : a ≤ 20000) (h2 : b ≤ 20000) : Q x := by
  obtain ⟨h3, h4⟩ := R_mono h h1 h2
  exact ⟨h3, h4⟩
theorem R_fv {b : Nat} (h : fin b) : R 1074 1025 (fv b) := by
  obtain ⟨k, hk⟩ := fv_unit b
  refine ⟨⟨k, hk⟩, ?_⟩
  have h1 := fin_lt h
  have h2 : pw 1024 < pw 1025 := pw_lt (by decide)
  grind
theorem R_pw {a b k : Int} (h1 : -a ≤ k) (h2 : k < b) : R a b (pw k) := by
  obtain ⟨m, hm⟩ := whole_pw (n := k + a) (by omega)
  refine ⟨⟨m, by rw [← hm, ← pw_add]; congr 1; omega⟩, by rw [ab_pw]; exact pw_lt h2⟩
theorem R_nat {n : Nat} {b : Int} (h : (n : Rat) < pw b) : R 0 b (n : Rat) := by
  refine ⟨⟨(n : Int), by rw [show -(0 : Int) = 0 from rfl, pw_zero, Rat.mul_one]; rfl⟩, ?_⟩
  have : (0 : Rat) ≤ (n : Rat) := Rat.natCast_nonneg
  unfold ab; rw [if_neg (by grind)]; exact h
end Lev
namespace Go.Proofs.Ytigacobphgeeaaa
open Go.RowKit Go.Shelf Lev

def dyC (d : Dy) (A : Option Addr) (c : Nat) : Array Value := #[.bool d.neg, .slice A (nd d.n).length c, .int .i64 d.e]
structure DyA (W : World) (d : Dy) (A : Option Addr) (c : Nat) : Prop where
  ok : d.ok
  nat : NatA W A (nd d.n) c
  q : Q d.v
theorem DyA.below {w w' : World} {d : Dy} {A : Option Addr} {c : Nat} (h : DyA w d A c) (hb : Below w.heap.size w w') : DyA w' d A c := ⟨h.ok, h.nat.below hb, h.q⟩
theorem DyA.v {w : World} {d : Dy} {A : Option Addr} {c : Nat} (h : DyA w d A c) : DyV w (dyV d A c) d.v := ⟨d, A, c, rfl, h.ok, rfl, h.nat, h.q⟩
theorem DyV.a {w : World} {v : Value} {x : Rat} (h : DyV w v x) : ∃ d A c, v = dyV d A c ∧ DyA w d A c ∧ d.v = x := by
  obtain ⟨d, A, c, e, h1, h2, h3, h4⟩ := h
  exact ⟨d, A, c, e, ⟨h1, h3, by rw [h2]; exact h4⟩, h2⟩
theorem DyA.zero (w : World) : DyA w Dy.zero none 0 := ⟨Dy.zero_ok, by unfold Dy.zero; rw [nd_zero]; exact NatA.nil _ _ (by decide), by rw [Dy.zero_v]; exact Q_zero⟩
theorem dyC_zero : dyC Dy.zero none 0 = #[.bool false, .slice none 0 0, .int .i64 0] := by unfold dyC Dy.zero; rw [nd_zero]; rfl
theorem dyV_zero : dyV Dy.zero none 0 = .agg #[.bool false, .slice none 0 0, .int .i64 0] := by unfold dyV Dy.zero; rw [nd_zero]; rfl
theorem SlArg.stored {w : World} {A : Option Addr} {xs : List Nat} {c g : Nat} {t : TypeId} {s : Bool} {B : Option Addr} {l cc : Nat} {e : Int} (h : SlArg w A xs c) (hb : Bk w g t #[.bool s, .slice B l cc, .int .i64 e]) (v0 v1 v2 : Value) : SlArg (stored3 w g v0 v1 v2) A xs c := by
  have hne : 0 < xs.length → ∀ a, A = some a → a.block ≠ g := fun hl a ha hg => by
    obtain ⟨b, off, e1, _, hc⟩ := h.reads.2 hl
    rw [e1] at ha
    cases ha
    have hg : b = g := hg
    subst hg
    have h1 := hb.cell (off + 0)
    rw [hc 0 hl] at h1
    rcases off with _ | _ | _ | off <;> simp at h1
  exact ((h.setCell (p := ⟨g, 0, none⟩) hne v0).setCell (p := ⟨g, 1, none⟩) hne v1).setCell (p := ⟨g, 2, none⟩) hne v2

/-- What a walk knows: what lay there is as it was; boxes of dyads; slices of floats; other boxes. -/
structure KeepD (w W : World) (L : List (Nat × Dy × Option Addr × Nat)) (M : List (Option Addr × List Nat × Nat)) (O : List (Nat × TypeId × Array Value)) : Prop where
  below : Below w.heap.size w W
  bx : ∀ y ∈ L, w.heap.size ≤ y.1 ∧ Bk W y.1 38 (dyC y.2.1 y.2.2.1 y.2.2.2)
  dy : ∀ y ∈ L, DyA W y.2.1 y.2.2.1 y.2.2.2
  sl : ∀ y ∈ M, SlArg W y.1 y.2.1 y.2.2
  ob : ∀ y ∈ O, y.2.1 ≠ 38 ∧ Bk W y.1 y.2.1 y.2.2
theorem KeepD.start (w : World) : KeepD w w [] [] [] := ⟨Below.refl _ _, fun y h => absurd h List.not_mem_nil, fun y h => absurd h List.not_mem_nil, fun y h => absurd h List.not_mem_nil, fun y h => absurd h List.not_mem_nil⟩
theorem KeepD.more {w W : World} {L M O} (h : KeepD w W L M O) {A : Option Addr} {xs : List Nat} {c : Nat} (hs : SlArg W A xs c) : KeepD w W L ((A, xs, c) :: M) O :=
  ⟨h.below, h.bx, h.dy, fun y hy => by
    rcases List.mem_cons.1 hy with rfl | hy
    · exact hs
    · exact h.sl y hy, h.ob⟩
theorem KeepD.call {w W W' : World} {L M O} (h : KeepD w W L M O) (hb : Below W.heap.size W W') : KeepD w W' L M O :=
  ⟨h.below.trans (hb.mono h.below.size), fun y hy => ⟨(h.bx y hy).1, (h.bx y hy).2.below hb (h.bx y hy).2.lt⟩, fun y hy => (h.dy y hy).below hb, fun y hy => (h.sl y hy).below hb, fun y hy => ⟨(h.ob y hy).1, (h.ob y hy).2.below hb (h.ob y hy).2.lt⟩⟩
theorem KeepD.push {w W : World} {L M O} (h : KeepD w W L M O) {d : Dy} {A : Option Addr} {c : Nat} (hd : DyA W d A c) : KeepD w (W.alloc (.cells #[.bool d.neg, .slice A (nd d.n).length c, .int .i64 d.e] 38)) ((W.heap.size, d, A, c) :: L) M O := by
  show KeepD w (W.alloc (.cells (dyC d A c) 38)) ((W.heap.size, d, A, c) :: L) M O
  have k := h.call ((Below.refl W.heap.size W).alloc (Nat.le_refl _) (.cells (dyC d A c) 38))
  refine ⟨k.below, fun y hy => ?_, fun y hy => ?_, k.sl, k.ob⟩
  · rcases List.mem_cons.1 hy with rfl | hy
    · exact ⟨h.below.size, Bk.new _ _ _⟩
    · exact k.bx y hy
  · rcases List.mem_cons.1 hy with rfl | hy
    · exact hd.below ((Below.refl W.heap.size W).alloc (Nat.le_refl _) _)
    · exact k.dy y hy
theorem KeepD.pushz {w W : World} {L M O} (h : KeepD w W L M O) : KeepD w (W.alloc (.cells #[.bool false, .slice none 0 0, .int .i64 0] 38)) ((W.heap.size, Dy.zero, none, 0) :: L) M O := by
  have : KeepD w (W.alloc (.cells (dyC Dy.zero none 0) 38)) ((W.heap.size, Dy.zero, none, 0) :: L) M O := h.push (DyA.zero W)
  rwa [dyC_zero] at this
theorem KeepD.pusho {w W : World} {L M O} (h : KeepD w W L M O) (cs : Array Value) (t : TypeId) (ht : t ≠ 38) : KeepD w (W.alloc (.cells cs t)) L M ((W.heap.size, t, cs) :: O) := by
  have k := h.call ((Below.refl W.heap.size W).alloc (Nat.le_refl _) (.cells cs t))
  refine ⟨k.below, k.bx, k.dy, k.sl, fun y hy => ?_⟩
  rcases List.mem_cons.1 hy with rfl | hy
  · exact ⟨ht, Bk.new _ _ _⟩
  · exact k.ob y hy
theorem KeepD.few {w W : World} {L L' M M' O O'} (h : KeepD w W L M O) (h1 : ∀ y ∈ L', y ∈ L) (h2 : ∀ y ∈ M', y ∈ M) (h3 : ∀ y ∈ O', y ∈ O) : KeepD w W L' M' O' :=
  ⟨h.below, fun y hy => h.bx y (h1 y hy), fun y hy => h.dy y (h1 y hy), fun y hy => h.sl y (h2 y hy), fun y hy => h.ob y (h3 y hy)⟩
/-- A dyad is stored in a box; the boxes L' are others. -/
theorem KeepD.store {w W : World} {L L' M O} (h : KeepD w W L M O) {g : Nat} {d0 : Dy} {A0 : Option Addr} {c0 : Nat} (hg : (g, d0, A0, c0) ∈ L) (hL : ∀ y ∈ L', y ∈ L ∧ y.1 ≠ g) {d : Dy} {A : Option Addr} {c : Nat} (hd : DyA W d A c) :
    KeepD w (stored3 W g (.bool d.neg) (.slice A (nd d.n).length c) (.int .i64 d.e)) ((g, d, A, c) :: L') M O := by
  obtain ⟨hw, hb⟩ := h.bx _ hg
  have hb : Bk W g 38 #[.bool d0.neg, .slice A0 (nd d0.n).length c0, .int .i64 d0.e] := hb
  have hw : w.heap.size ≤ g := hw
  refine ⟨(dy_box hb _ _ _).2.1 _ _ h.below hw, fun y hy => ?_, fun y hy => ?_, fun y hy => (h.sl y hy).stored hb _ _ _, fun y hy => ⟨(h.ob y hy).1, (h.ob y hy).2.stored3 (fun e => ?_) _ _ _⟩⟩
  · rcases List.mem_cons.1 hy with rfl | hy
    · exact ⟨hw, (dy_box hb _ _ _).1⟩
    · exact ⟨(h.bx y (hL y hy).1).1, (h.bx y (hL y hy).1).2.stored3 (hL y hy).2 _ _ _⟩
  · rcases List.mem_cons.1 hy with rfl | hy
    · exact ⟨hd.ok, hd.nat.stored hb _ _ _, hd.q⟩
    · have := h.dy y (hL y hy).1
      exact ⟨this.ok, this.nat.stored hb _ _ _, this.q⟩
  · have h1 := (h.ob y hy).2
    rw [e] at h1
    unfold Bk at h1 hb
    rw [h1] at hb
    have h2 := Option.some.inj hb
    injection h2 with h3 h4
    exact (h.ob y hy).1 h4
/-- A new variable: a box is made, and a dyad is stored in it. -/
theorem KeepD.var {w W : World} {L M O} (h : KeepD w W L M O) {d : Dy} {A : Option Addr} {c : Nat} (hd : DyA W d A c) :
    KeepD w (stored3 (W.alloc (.cells #[.bool false, .slice none 0 0, .int .i64 0] 38)) W.heap.size (.bool d.neg) (.slice A (nd d.n).length c) (.int .i64 d.e)) ((W.heap.size, d, A, c) :: L) M O :=
  h.pushz.store (.head _) (fun y hy => ⟨.tail _ hy, Nat.ne_of_lt (h.bx y hy).2.lt⟩) (hd.below ((Below.refl _ _).alloc (Nat.le_refl _) _))
/-- A new box that a region made behind B, and in which nothing is stored yet. -/
structure OwnZ (B : Nat) (w : World) (g : Nat) : Prop where
  ge : B ≤ g
  bk : Bk w g 38 #[.bool false, .slice none 0 0, .int .i64 0]
theorem ownZ_new {W X w5 : World} (h : Below W.heap.size W X) (hb : Below (X.alloc (.cells #[.bool false, .slice none 0 0, .int .i64 0] 38)).heap.size (X.alloc (.cells #[.bool false, .slice none 0 0, .int .i64 0] 38)) w5) : OwnZ W.heap.size w5 X.heap.size :=
  ⟨h.size, (Bk.new X _ _).below hb (by rw [World.size_alloc]; exact Nat.lt_succ_self _)⟩
theorem OwnZ.call {B : Nat} {w w' : World} {g : Nat} (h : OwnZ B w g) (hb : Below w.heap.size w w') : OwnZ B w' g := ⟨h.ge, h.bk.below hb h.bk.lt⟩
theorem KeepD.fill {w W W' : World} {L M O} (h : KeepD w W L M O) (hb : Below W.heap.size W W') {g : Nat} (hz : OwnZ W.heap.size W' g) {d : Dy} {A : Option Addr} {c : Nat} (hd : DyA W' d A c) :
    KeepD w (stored3 W' g (.bool d.neg) (.slice A (nd d.n).length c) (.int .i64 d.e)) ((g, d, A, c) :: L) M O := by
  have k := h.call hb
  have hbx : ∀ y ∈ L, y.1 ≠ g := fun y hy => by have := (h.bx y hy).2.lt; have := hz.ge; omega
  have hw : w.heap.size ≤ g := Nat.le_trans h.below.size hz.ge
  have k2 : KeepD w W' ((g, Dy.zero, none, 0) :: L) M O := ⟨k.below, fun y hy => by
    rcases List.mem_cons.1 hy with rfl | hy
    · exact ⟨hw, by rw [show dyC (Dy.zero) none 0 = _ from dyC_zero]; exact hz.bk⟩
    · exact k.bx y hy, fun y hy => by
    rcases List.mem_cons.1 hy with rfl | hy
    · exact DyA.zero _
    · exact k.dy y hy, k.sl, k.ob⟩
  exact k2.store (.head _) (fun y hy => ⟨.tail _ hy, hbx y hy⟩) hd
theorem KeepD.box {w W : World} {L M O} (h : KeepD w W L M O) {g : Nat} {d : Dy} {A : Option Addr} {c : Nat} (hg : (g, d, A, c) ∈ L) : Bk W g 38 #[.bool d.neg, .slice A (nd d.n).length c, .int .i64 d.e] := (h.bx _ hg).2
theorem KeepD.val {w W : World} {L M O} (h : KeepD w W L M O) {g : Nat} {d : Dy} {A : Option Addr} {c : Nat} (hg : (g, d, A, c) ∈ L) : DyA W d A c := h.dy _ hg
theorem KeepD.arg {w W : World} {L M O} (h : KeepD w W L M O) {A : Option Addr} {xs : List Nat} {c : Nat} (hg : (A, xs, c) ∈ M) : SlArg W A xs c := h.sl _ hg
theorem KeepD.other {w W : World} {L M O} (h : KeepD w W L M O) {g : Nat} {t : TypeId} {cs : Array Value} (hg : (g, t, cs) ∈ O) : Bk W g t cs := (h.ob _ hg).2
end Go.Proofs.Ytigacobphgeeaaa

/- Contracts of dyads: Dot, Sum. -/
set_option linter.unusedVariables false
namespace Lev
theorem R_sum {t : Nat → Rat} {a b : Int} : ∀ k : Nat, (∀ i, i < k → R a b (t i)) → R a (b + k) (sumR t k)
  | 0, _ => R_zero _ _
  | k + 1, h => by
    have h1 := R_sum k (fun i hi => h i (by omega))
    have h2 := R_mono (h k (by omega)) (Int.le_refl a) (show b ≤ b + k by omega)
    have := R_add h1 h2
    rw [show b + ((k + 1 : Nat) : Int) = b + k + 1 from by omega]
    exact this
end Lev
namespace Go.Proofs.Ytigacobphgeeaaa
open Go.RowKit Go.Shelf Lev

end Go.Proofs.Ytigacobphgeeaaa

/- Contracts of dyads: Sum; Times of layer 4. -/
set_option linter.unusedVariables false
namespace Lev
theorem Q_nat {k : Nat} (h : k < 18446744073709551616) : Q (k : Rat) := by
  refine R_Q (a := 0) (b := 64) (R_nat ?_) (by omega) (by omega)
  rw [show (64 : Int) = ((64 : Nat) : Int) from rfl, pw_nat]
  exact cast_lt.2 (by omega)
end Lev
namespace Go.Proofs.Ytigacobphgeeaaa
open Go.RowKit Go.Shelf Lev

theorem run_maxY {P : Program} (w : World) (ts : Array TypeId) (t : TypeId) (x y : Int) : (Builtin.max_ ts t #[.int .i64 x, .int .i64 y]).run P w = .ok (.int .i64 (max x y)) w := by
  rw [run_max_int2]
  congr 2
  split <;> omega
attribute [local go_sem high] run_maxY

set_option maxRecDepth 100000 in
set_option maxHeartbeats 1000000 in
theorem times04_any (v : Value) (x : Rat) (k : Nat) (w : World) (h : DyV w v x) (hk : k < 9223372036854775808) (hq : Q (x * (k : Rat))) :
    Calls Try.prog 28 #[v, .int .i64 (k : Int)] w fun e w' => (∃ v', e = .returned v' ∧ DyV w' v' (x * (k : Rat))) ∧ Below w.heap.size w w' := by
  obtain ⟨d, A, c, rfl, ha, hv⟩ := h.a
  have k0 := ((KeepD.start w).push ha).pushz
  rw [World.size_alloc] at k0
  obtain ⟨W, hW⟩ : ∃ W, W = (w.alloc (.cells #[.bool d.neg, .slice A (nd d.n).length c, .int .i64 d.e] 38)).alloc (.cells #[.bool false, .slice none 0 0, .int .i64 0] 38) := ⟨_, rfl⟩
  rw [← hW] at k0
  have K3 := Lib.hid k0
  have hw : max 0 (k : Int) = (k : Int) := by omega
  have hw2 : IntKind.u64.wrap (k : Int) = (k : Int) := by rw [IntKind.wrap_u64]; omega
  have HFR := Lib.hid (fun W => from02_any k (by omega) W)
  have HNO := Lib.hid (fun W A c h => norm_any false 0 (nd k) A c W h (by omega) (Nat.le_trans (nd_len_le (show k ≤ 18446744073709551615 by omega)) nd_max) (k : Rat) (by rw [vN_nd, sv_false, pw_zero, Rat.mul_one]) (Q_nat (by omega)))
  have HMU := fun W' v' hW h' => mul03_any (dyV d A c) v' x (k : Rat) W' (h.below hW) h' hq
  have HKEEP := Lib.hid (fun Y (h : Below (w.heap.size + 1) W Y) => show (Y.cell? ⟨w.heap.size, 0, none⟩ = some (.bool d.neg) ∧ Y.cell? ⟨w.heap.size, 1, none⟩ = some (.slice A (nd d.n).length c) ∧ Y.cell? ⟨w.heap.size, 2, none⟩ = some (.int .i64 d.e)) ∧ Below (w.heap.size + 1) W Y from
    ⟨((K3.out.box (.tail _ (.head _))).below h (by omega)).c3, h⟩)
  have hWs : w.heap.size + 1 ≤ W.heap.size := Nat.le_of_lt (K3.out.box (.head _)).lt
  have HW := Lib.hid hW
  unfold dyV at HMU ⊢
  have HMU := Lib.hid HMU
  clear h ha hv k0 hW hq
  go_enter Try.func28, Try.ntmps28
  go_wp2_with fail
  rw [← HW.out]
  go_region_held3 (fun Y => (Y.cell? ⟨w.heap.size, 0, none⟩ = some (.bool d.neg) ∧ Y.cell? ⟨w.heap.size, 1, none⟩ = some (.slice A (nd d.n).length c) ∧ Y.cell? ⟨w.heap.size, 2, none⟩ = some (.int .i64 d.e)) ∧ Below (w.heap.size + 1) W Y)
    ((refine HKEEP.out _ ?_; first | (refine Below.setCell (Below.setCell (Below.setCell hb8 (by dsimp only; omega) _) (by dsimp only; omega) _) (by dsimp only; omega) _) | (refine Below.mono (B := W.heap.size) ?_ hWs; repeat (first | assumption | exact Below.refl _ _ | refine Below.allocs ?_ _ | refine Below.drews ?_ | refine Below.chain ?_ (by assumption)))))
    (first
      | (go_at_call 51; (refine (HFR.out _).mono ?_); rintro e w4 ⟨⟨v, rfl, B4, c4, rfl, hv4⟩, hb4⟩)
      | (go_at_call 50; (with_reducible refine (HNO.out _ _ _ (hv4.below (by repeat (first | assumption | exact Below.refl _ _ | refine Below.allocs ?_ _ | refine Below.drews ?_ | refine Below.chain ?_ (by assumption))))).mono ?_); rintro e w5 ⟨⟨v, rfl, hv⟩, hb5⟩; obtain ⟨d5, A5, c5, rfl, ha5, hv5⟩ := hv.a; unfold dyV at *)
      | (go_at_call 21; (with_reducible refine (HMU.out _ _ (Below.chain K3.out.below (by repeat (first | assumption | exact Below.refl _ _ | refine Below.allocs ?_ _ | refine Below.drews ?_ | refine Below.chain ?_ (by assumption)))) (hv.below (by repeat (first | assumption | exact Below.refl _ _ | refine Below.allocs ?_ _ | refine Below.drews ?_ | refine Below.chain ?_ (by assumption))))).mono ?_); rintro e w6 ⟨⟨v, rfl, hv⟩, hb6⟩; obtain ⟨d3, A3, c3, rfl, ha3, hv3⟩ := hv.a; have hb7 : Below W.heap.size W w6 := (Below.chain (by repeat (first | assumption | exact Below.refl _ _ | refine Below.allocs ?_ _ | refine Below.drews ?_ | refine Below.chain ?_ (by assumption))) hb6); have hb8 : Below (w.heap.size + 1) W w6 := hb7.mono hWs; have bx := (K3.out.call hb7).box (.head _); obtain ⟨x0, x1, x2⟩ := bx.c3; obtain ⟨y0, y1, y2⟩ := bx.f3; unfold dyV))
  all_goals
    have KZ := Lib.hid ((K3.out.call hb7).store (.head _) (L' := []) (fun y hy => absurd hy List.not_mem_nil) ha3)
    have HV3 := Lib.hid hv3
    go_wp2
    refine ret_dy1 (v0 := .bool d3.neg) (v1 := .slice A3 (nd d3.n).length c3) (v2 := .int .i64 d3.e) (g := w.heap.size + 1) rfl rfl (KZ.out.box (.head _)) rfl ?_
    exact ⟨⟨_, rfl, by rw [← HV3.out]; exact (KZ.out.val (.head _)).v⟩, KZ.out.below⟩
end Go.Proofs.Ytigacobphgeeaaa

/- Contracts of dyads: how far a float is from a dyad (apart, near). -/
set_option linter.unusedVariables false
namespace Go.Proofs.Ytigacobphgeeaaa
open Go.RowKit Go.Shelf Lev

theorem namedQ {Q : Exit → Act → World → Prop} {e : Exit} {a : Act} {w : World} (h : ∀ W, W = w → Q e a W) : Q e a w := h w rfl
theorem KeepD.name {w W : World} {L M O} {x : Nat} {d : Dy} {A : Option Addr} {c : Nat} (h : KeepD w W ((x, d, A, c) :: L) M O) : ∃ g, x = g ∧ KeepD w W ((g, d, A, c) :: L) M O := ⟨x, rfl, h⟩
theorem ownZ_newd {W X w5 : World} (h : Below W.heap.size W X) (hb : Below (X.alloc (.cells #[.bool false, .slice none 0 0, .int .i64 0] 38)).drew.heap.size (X.alloc (.cells #[.bool false, .slice none 0 0, .int .i64 0] 38)).drew w5) : OwnZ W.heap.size w5 X.heap.size :=
  ownZ_new h (Below.trans (Below.refl _ _).drew hb)

end Go.Proofs.Ytigacobphgeeaaa

/- Contracts of layer 6's law: exact, pair, near, sizes. -/
set_option linter.unusedVariables false
namespace Go.Proofs.Ytigacobphgeeaaa
open Go.RowKit Go.Shelf Lev

end Go.Proofs.Ytigacobphgeeaaa
