/- Plain texts, laid as one. -/
import Derived.Test.YtfnhcgpdlhndhaaY
import Derived.Test.YtfnhcgpdlhndhaaE
import Derived.Test.YtfnhcgpdlhndhaaT
import Derived.Test.YtfnhcgpdlhndhaaM
/- Memory: boxes of dyads, kept over calls and stores. -/
set_option linter.unusedVariables false
namespace Lev
/-- A whole number of 2^-a, below 2^b. -/
def R (a b : Int) (x : Rat) : Prop := (∃ k : Int, x = (k : Rat) * pw (-a)) ∧ ab x < pw b
theorem R_zero (a b : Int) : R a b 0 := ⟨⟨0, by simp⟩, by rw [show ab (0 : Rat) = 0 from by decide +kernel]; exact pw_pos _⟩
theorem whole_pw {n : Int} (h : 0 ≤ n) : ∃ k : Int, pw n = (k : Rat) := by
  obtain ⟨m, rfl⟩ : ∃ m : Nat, n = m := ⟨n.toNat, by omega⟩
  exact ⟨((2 ^ m : Nat) : Int), by rw [pw_nat]; rfl⟩
theorem R_mono {a b c d : Int} {x : Rat} (h : R a b x) (h1 : a ≤ c) (h2 : b ≤ d) : R c d x := by
  obtain ⟨⟨k, hk⟩, hb⟩ := h
  have h3 := pw_le h2
  refine ⟨?_, by grind⟩
  obtain ⟨m, hm⟩ := whole_pw (n := c - a) (by omega)
  refine ⟨k * m, ?_⟩
  rw [hk, Rat.intCast_mul, ← hm, Rat.mul_assoc, ← pw_add]
  congr 2; omega
theorem R_neg {a b : Int} {x : Rat} (h : R a b x) : R a b (-x) := by
  obtain ⟨⟨k, hk⟩, hb⟩ := h
  exact ⟨⟨-k, by rw [hk, Rat.intCast_neg]; grind⟩, by rwa [ab_neg]⟩
theorem R_ab {a b : Int} {x : Rat} (h : R a b x) : R a b (ab x) := by
  unfold ab; split
  · exact R_neg h
  · exact h
theorem R_add {a b : Int} {x y : Rat} (h : R a b x) (h2 : R a b y) : R a (b + 1) (x + y) := by
  obtain ⟨⟨k, hk⟩, hb⟩ := h
  obtain ⟨⟨m, hm⟩, hc⟩ := h2
  refine ⟨⟨k + m, by rw [hk, hm, Rat.intCast_add]; grind⟩, ?_⟩
  rw [pw_double]
  have := ab_add x y
  grind
theorem R_sub {a b : Int} {x y : Rat} (h : R a b x) (h2 : R a b y) : R a (b + 1) (x - y) := by
  rw [show x - y = x + -y from by grind]
  exact R_add h (R_neg h2)
theorem R_mul {a b c d : Int} {x y : Rat} (h : R a b x) (h2 : R c d y) : R (a + c) (b + d) (x * y) := by
  obtain ⟨⟨k, hk⟩, hb⟩ := h
  obtain ⟨⟨m, hm⟩, hc⟩ := h2
  refine ⟨⟨k * m, by rw [hk, hm, Rat.intCast_mul, show -(a + c) = -a + -c from by omega, pw_add]; grind⟩, ?_⟩
  rw [ab_mul, pw_add]
  have h3 := ab_nonneg x
  have h4 := ab_nonneg y
  have h5 := pw_pos b
  have h6 := pw_pos d
  have h7 : ab x * ab y ≤ pw b * ab y := Rat.mul_le_mul_of_nonneg_right (Rat.le_of_lt hb) h4
  have h8 : pw b * ab y < pw b * pw d := Rat.mul_lt_mul_of_pos_left hc h5
  grind
theorem R_Q {a b : Int} {x : Rat} (h : R a b x) (h1 : a ≤ 20000) (h2 : b ≤ 20000) : Q x := by
  obtain ⟨h3, h4⟩ := R_mono h h1 h2
  exact ⟨h3, h4⟩
theorem R_fv {b : Nat} (h : fin b) : R 1074 1025 (fv b) := by
  obtain ⟨k, hk⟩ := fv_unit b
  refine ⟨⟨k, hk⟩, ?_⟩
  have h1 := fin_lt h
  have h2 : pw 1024 < pw 1025 := pw_lt (by decide)
  grind
theorem R_pw {a b k : Int} (h1 : -a ≤ k) (h2 : k < b) : R a b (pw k) := by
  obtain ⟨m, hm⟩ := whole_pw (n := k + a) (by omega)
  refine ⟨⟨m, by rw [← hm, ← pw_add]; congr 1; omega⟩, by rw [ab_pw]; exact pw_lt h2⟩
theorem R_nat {n : Nat} {b : Int} (h : (n : Rat) < pw b) : R 0 b (n : Rat) := by
  refine ⟨⟨(n : Int), by rw [show -(0 : Int) = 0 from rfl, pw_zero, Rat.mul_one]; rfl⟩, ?_⟩
  have : (0 : Rat) ≤ (n : Rat) := Rat.natCast_nonneg
  unfold ab; rw [if_neg (by grind)]; exact h
end Lev
namespace Go.Proofs.Ytfnhcgpdlhndhaa
open Go.RowKit Go.Shelf Lev

def dyC (d : Dy) (A : Option Addr) (c : Nat) : Array Value := #[.bool d.neg, .slice A (nd d.n).length c, .int .i64 d.e]
structure DyA (W : World) (d : Dy) (A : Option Addr) (c : Nat) : Prop where
  ok : d.ok
  nat : NatA W A (nd d.n) c
  q : Q d.v
theorem DyA.below {w w' : World} {d : Dy} {A : Option Addr} {c : Nat} (h : DyA w d A c) (hb : Below w.heap.size w w') : DyA w' d A c := ⟨h.ok, h.nat.below hb, h.q⟩
theorem DyA.v {w : World} {d : Dy} {A : Option Addr} {c : Nat} (h : DyA w d A c) : DyV w (dyV d A c) d.v := ⟨d, A, c, rfl, h.ok, rfl, h.nat, h.q⟩
theorem DyV.a {w : World} {v : Value} {x : Rat} (h : DyV w v x) : ∃ d A c, v = dyV d A c ∧ DyA w d A c ∧ d.v = x := by
  obtain ⟨d, A, c, e, h1, h2, h3, h4⟩ := h
  exact ⟨d, A, c, e, ⟨h1, h3, by rw [h2]; exact h4⟩, h2⟩
theorem DyA.zero (w : World) : DyA w Dy.zero none 0 := ⟨Dy.zero_ok, by unfold Dy.zero; rw [nd_zero]; exact NatA.nil _ _ (by decide), by rw [Dy.zero_v]; exact Q_zero⟩
theorem dyC_zero : dyC Dy.zero none 0 = #[.bool false, .slice none 0 0, .int .i64 0] := by unfold dyC Dy.zero; rw [nd_zero]; rfl
theorem dyV_zero : dyV Dy.zero none 0 = .agg #[.bool false, .slice none 0 0, .int .i64 0] := by unfold dyV Dy.zero; rw [nd_zero]; rfl
theorem SlArg.stored {w : World} {A : Option Addr} {xs : List Nat} {c g : Nat} {t : TypeId} {s : Bool} {B : Option Addr} {l cc : Nat} {e : Int} (h : SlArg w A xs c) (hb : Bk w g t #[.bool s, .slice B l cc, .int .i64 e]) (v0 v1 v2 : Value) : SlArg (stored3 w g v0 v1 v2) A xs c := by
  have hne : 0 < xs.length → ∀ a, A = some a → a.block ≠ g := fun hl a ha hg => by
    obtain ⟨b, off, e1, _, hc⟩ := h.reads.2 hl
    rw [e1] at ha
    cases ha
    have hg : b = g := hg
    subst hg
    have h1 := hb.cell (off + 0)
    rw [hc 0 hl] at h1
    rcases off with _ | _ | _ | off <;> simp at h1
  exact ((h.setCell (p := ⟨g, 0, none⟩) hne v0).setCell (p := ⟨g, 1, none⟩) hne v1).setCell (p := ⟨g, 2, none⟩) hne v2

/-- What a walk knows: what lay there is as it was; boxes of dyads; slices of floats; other boxes. -/
structure KeepD (w W : World) (L : List (Nat × Dy × Option Addr × Nat)) (M : List (Option Addr × List Nat × Nat)) (O : List (Nat × TypeId × Array Value)) : Prop where
  below : Below w.heap.size w W
  bx : ∀ y ∈ L, w.heap.size ≤ y.1 ∧ Bk W y.1 30 (dyC y.2.1 y.2.2.1 y.2.2.2)
  dy : ∀ y ∈ L, DyA W y.2.1 y.2.2.1 y.2.2.2
  sl : ∀ y ∈ M, SlArg W y.1 y.2.1 y.2.2
  ob : ∀ y ∈ O, y.2.1 ≠ 30 ∧ Bk W y.1 y.2.1 y.2.2
theorem KeepD.start (w : World) : KeepD w w [] [] [] := ⟨Below.refl _ _, fun y h => absurd h List.not_mem_nil, fun y h => absurd h List.not_mem_nil, fun y h => absurd h List.not_mem_nil, fun y h => absurd h List.not_mem_nil⟩
theorem KeepD.more {w W : World} {L M O} (h : KeepD w W L M O) {A : Option Addr} {xs : List Nat} {c : Nat} (hs : SlArg W A xs c) : KeepD w W L ((A, xs, c) :: M) O :=
  ⟨h.below, h.bx, h.dy, fun y hy => by
    rcases List.mem_cons.1 hy with rfl | hy
    · exact hs
    · exact h.sl y hy, h.ob⟩
theorem KeepD.call {w W W' : World} {L M O} (h : KeepD w W L M O) (hb : Below W.heap.size W W') : KeepD w W' L M O :=
  ⟨h.below.trans (hb.mono h.below.size), fun y hy => ⟨(h.bx y hy).1, (h.bx y hy).2.below hb (h.bx y hy).2.lt⟩, fun y hy => (h.dy y hy).below hb, fun y hy => (h.sl y hy).below hb, fun y hy => ⟨(h.ob y hy).1, (h.ob y hy).2.below hb (h.ob y hy).2.lt⟩⟩
theorem KeepD.push {w W : World} {L M O} (h : KeepD w W L M O) {d : Dy} {A : Option Addr} {c : Nat} (hd : DyA W d A c) : KeepD w (W.alloc (.cells #[.bool d.neg, .slice A (nd d.n).length c, .int .i64 d.e] 30)) ((W.heap.size, d, A, c) :: L) M O := by
  show KeepD w (W.alloc (.cells (dyC d A c) 30)) ((W.heap.size, d, A, c) :: L) M O
  have k := h.call ((Below.refl W.heap.size W).alloc (Nat.le_refl _) (.cells (dyC d A c) 30))
  refine ⟨k.below, fun y hy => ?_, fun y hy => ?_, k.sl, k.ob⟩
  · rcases List.mem_cons.1 hy with rfl | hy
    · exact ⟨h.below.size, Bk.new _ _ _⟩
    · exact k.bx y hy
  · rcases List.mem_cons.1 hy with rfl | hy
    · exact hd.below ((Below.refl W.heap.size W).alloc (Nat.le_refl _) _)
    · exact k.dy y hy
theorem KeepD.pushz {w W : World} {L M O} (h : KeepD w W L M O) : KeepD w (W.alloc (.cells #[.bool false, .slice none 0 0, .int .i64 0] 30)) ((W.heap.size, Dy.zero, none, 0) :: L) M O := by
  have : KeepD w (W.alloc (.cells (dyC Dy.zero none 0) 30)) ((W.heap.size, Dy.zero, none, 0) :: L) M O := h.push (DyA.zero W)
  rwa [dyC_zero] at this
theorem KeepD.pusho {w W : World} {L M O} (h : KeepD w W L M O) (cs : Array Value) (t : TypeId) (ht : t ≠ 30) : KeepD w (W.alloc (.cells cs t)) L M ((W.heap.size, t, cs) :: O) := by
  have k := h.call ((Below.refl W.heap.size W).alloc (Nat.le_refl _) (.cells cs t))
  refine ⟨k.below, k.bx, k.dy, k.sl, fun y hy => ?_⟩
  rcases List.mem_cons.1 hy with rfl | hy
  · exact ⟨ht, Bk.new _ _ _⟩
  · exact k.ob y hy
theorem KeepD.few {w W : World} {L L' M M' O O'} (h : KeepD w W L M O) (h1 : ∀ y ∈ L', y ∈ L) (h2 : ∀ y ∈ M', y ∈ M) (h3 : ∀ y ∈ O', y ∈ O) : KeepD w W L' M' O' :=
  ⟨h.below, fun y hy => h.bx y (h1 y hy), fun y hy => h.dy y (h1 y hy), fun y hy => h.sl y (h2 y hy), fun y hy => h.ob y (h3 y hy)⟩
/-- A dyad is stored in a box; the boxes L' are others. -/
theorem KeepD.store {w W : World} {L L' M O} (h : KeepD w W L M O) {g : Nat} {d0 : Dy} {A0 : Option Addr} {c0 : Nat} (hg : (g, d0, A0, c0) ∈ L) (hL : ∀ y ∈ L', y ∈ L ∧ y.1 ≠ g) {d : Dy} {A : Option Addr} {c : Nat} (hd : DyA W d A c) :
    KeepD w (stored3 W g (.bool d.neg) (.slice A (nd d.n).length c) (.int .i64 d.e)) ((g, d, A, c) :: L') M O := by
  obtain ⟨hw, hb⟩ := h.bx _ hg
  have hb : Bk W g 30 #[.bool d0.neg, .slice A0 (nd d0.n).length c0, .int .i64 d0.e] := hb
  have hw : w.heap.size ≤ g := hw
  refine ⟨(dy_box hb _ _ _).2.1 _ _ h.below hw, fun y hy => ?_, fun y hy => ?_, fun y hy => (h.sl y hy).stored hb _ _ _, fun y hy => ⟨(h.ob y hy).1, (h.ob y hy).2.stored3 (fun e => ?_) _ _ _⟩⟩
  · rcases List.mem_cons.1 hy with rfl | hy
    · exact ⟨hw, (dy_box hb _ _ _).1⟩
    · exact ⟨(h.bx y (hL y hy).1).1, (h.bx y (hL y hy).1).2.stored3 (hL y hy).2 _ _ _⟩
  · rcases List.mem_cons.1 hy with rfl | hy
    · exact ⟨hd.ok, hd.nat.stored hb _ _ _, hd.q⟩
    · have := h.dy y (hL y hy).1
      exact ⟨this.ok, this.nat.stored hb _ _ _, this.q⟩
  · have h1 := (h.ob y hy).2
    rw [e] at h1
    unfold Bk at h1 hb
    rw [h1] at hb
    have h2 := Option.some.inj hb
    injection h2 with h3 h4
    exact (h.ob y hy).1 h4
/-- A new variable: a box is made, and a dyad is stored in it. -/
theorem KeepD.var {w W : World} {L M O} (h : KeepD w W L M O) {d : Dy} {A : Option Addr} {c : Nat} (hd : DyA W d A c) :
    KeepD w (stored3 (W.alloc (.cells #[.bool false, .slice none 0 0, .int .i64 0] 30)) W.heap.size (.bool d.neg) (.slice A (nd d.n).length c) (.int .i64 d.e)) ((W.heap.size, d, A, c) :: L) M O :=
  h.pushz.store (.head _) (fun y hy => ⟨.tail _ hy, Nat.ne_of_lt (h.bx y hy).2.lt⟩) (hd.below ((Below.refl _ _).alloc (Nat.le_refl _) _))
/-- A new box that a region made behind B, and in which nothing is stored yet. -/
structure OwnZ (B : Nat) (w : World) (g : Nat) : Prop where
  ge : B ≤ g
  bk : Bk w g 30 #[.bool false, .slice none 0 0, .int .i64 0]
theorem ownZ_new {W X w5 : World} (h : Below W.heap.size W X) (hb : Below (X.alloc (.cells #[.bool false, .slice none 0 0, .int .i64 0] 30)).heap.size (X.alloc (.cells #[.bool false, .slice none 0 0, .int .i64 0] 30)) w5) : OwnZ W.heap.size w5 X.heap.size :=
  ⟨h.size, (Bk.new X _ _).below hb (by rw [World.size_alloc]; exact Nat.lt_succ_self _)⟩
theorem OwnZ.call {B : Nat} {w w' : World} {g : Nat} (h : OwnZ B w g) (hb : Below w.heap.size w w') : OwnZ B w' g := ⟨h.ge, h.bk.below hb h.bk.lt⟩
theorem KeepD.fill {w W W' : World} {L M O} (h : KeepD w W L M O) (hb : Below W.heap.size W W') {g : Nat} (hz : OwnZ W.heap.size W' g) {d : Dy} {A : Option Addr} {c : Nat} (hd : DyA W' d A c) :
    KeepD w (stored3 W' g (.bool d.neg) (.slice A (nd d.n).length c) (.int .i64 d.e)) ((g, d, A, c) :: L) M O := by
  have k := h.call hb
  have hbx : ∀ y ∈ L, y.1 ≠ g := fun y hy => by have := (h.bx y hy).2.lt; have := hz.ge; omega
  have hw : w.heap.size ≤ g := Nat.le_trans h.below.size hz.ge
  have k2 : KeepD w W' ((g, Dy.zero, none, 0) :: L) M O := ⟨k.below, fun y hy => by
    rcases List.mem_cons.1 hy with rfl | hy
    · exact ⟨hw, by rw [show dyC (Dy.zero) none 0 = _ from dyC_zero]; exact hz.bk⟩
    · exact k.bx y hy, fun y hy => by
    rcases List.mem_cons.1 hy with rfl | hy
    · exact DyA.zero _
    · exact k.dy y hy, k.sl, k.ob⟩
  exact k2.store (.head _) (fun y hy => ⟨.tail _ hy, hbx y hy⟩) hd
theorem KeepD.box {w W : World} {L M O} (h : KeepD w W L M O) {g : Nat} {d : Dy} {A : Option Addr} {c : Nat} (hg : (g, d, A, c) ∈ L) : Bk W g 30 #[.bool d.neg, .slice A (nd d.n).length c, .int .i64 d.e] := (h.bx _ hg).2
theorem KeepD.val {w W : World} {L M O} (h : KeepD w W L M O) {g : Nat} {d : Dy} {A : Option Addr} {c : Nat} (hg : (g, d, A, c) ∈ L) : DyA W d A c := h.dy _ hg
theorem KeepD.arg {w W : World} {L M O} (h : KeepD w W L M O) {A : Option Addr} {xs : List Nat} {c : Nat} (hg : (A, xs, c) ∈ M) : SlArg W A xs c := h.sl _ hg
theorem KeepD.other {w W : World} {L M O} (h : KeepD w W L M O) {g : Nat} {t : TypeId} {cs : Array Value} (hg : (g, t, cs) ∈ O) : Bk W g t cs := (h.ob _ hg).2
end Go.Proofs.Ytfnhcgpdlhndhaa

/- Contracts of dyads: Dot, Sum. -/
set_option linter.unusedVariables false
namespace Lev
theorem R_sum {t : Nat → Rat} {a b : Int} : ∀ k : Nat, (∀ i, i < k → R a b (t i)) → R a (b + k) (sumR t k)
  | 0, _ => R_zero _ _
  | k + 1, h => by
    have h1 := R_sum k (fun i hi => h i (by omega))
    have h2 := R_mono (h k (by omega)) (Int.le_refl a) (show b ≤ b + k by omega)
    have := R_add h1 h2
    rw [show b + ((k + 1 : Nat) : Int) = b + k + 1 from by omega]
    exact this
end Lev
namespace Go.Proofs.Ytfnhcgpdlhndhaa
open Go.RowKit Go.Shelf Lev

set_option maxRecDepth 100000 in
set_option maxHeartbeats 4000000 in
theorem dot03_any (xs ys : List Nat) (A B : Option Addr) (ca cb : Nat) (w : World) (hx : SlArg w A xs ca) (hy : SlArg w B ys cb) (hlen : xs.length = ys.length) (hl : xs.length ≤ 1000) (hfx : ∀ i, i < xs.length → fin (ge xs i)) (hfy : ∀ i, i < xs.length → fin (ge ys i)) :
    Calls Try.prog 13 #[.slice A xs.length ca, .slice B ys.length cb] w fun e w' => (∃ v, e = .returned (.tuple #[v, .bool true]) ∧ DyV w' v (sumR (fun i => fv (ge xs i) * fv (ge ys i)) xs.length)) ∧ Below w.heap.size w w' := by
  have k0 := (((KeepD.start w).more hx).more hy).pushz.pushz
  rw [World.size_alloc] at k0
  have K0 := Lib.hid k0
  have HFX := Lib.hid (fun i hi W => from03_any (ge xs i) (hx.reads.lt i) (hfx i hi) W)
  have HFY := Lib.hid (fun i hi W => from03_any (ge ys i) (hy.reads.lt i) (hfy i hi) W)
  have hR : ∀ k, k ≤ xs.length → R 2148 (2050 + k) (sumR (fun i => fv (ge xs i) * fv (ge ys i)) k) := fun k hk => R_sum k (fun i hi => R_mul (R_fv (hfx i (by omega))) (R_fv (hfy i (by omega))))
  have hRm : ∀ k, k < xs.length → R 2148 2050 (fv (ge xs k) * fv (ge ys k)) := fun k hk => R_mul (R_fv (hfx k hk)) (R_fv (hfy k hk))
  have HR := Lib.hid hR; have HRM := Lib.hid hRm
  have t0 : ((xs.length : Int) != (ys.length : Int)) = false := by rw [bne_eq_false_iff_eq]; omega
  obtain ⟨n, hn⟩ : ∃ n, n = ys.length := ⟨_, rfl⟩
  have HLEN := Lib.hid hlen
  obtain ⟨t, ht⟩ : ∃ t : Nat → Rat, t = fun i => fv (ge xs i) * fv (ge ys i) := ⟨_, rfl⟩
  rw [← ht] at HR ⊢
  have HT := Lib.hid ht
  clear k0 hx hy hlen hfx hfy hR hRm hn ht
  go_enter Try.func13, Try.ntmps13
  go_wp2_with fail
  go_loopw [7] (fun iv wr => ∃ (k : Nat) (d : Dy) (C : Option Addr) (c : Nat), k ≤ xs.length ∧ iv = .int .i64 (k : Int) ∧ KeepD w wr [(w.heap.size + 1, d, C, c), (w.heap.size, Dy.zero, none, 0)] [(B, ys, cb), (A, xs, ca)] [] ∧ d.v = sumR t k) (fun iv _ => xs.length - (intOf iv).toNat)
  case atStart => exact ⟨0, Dy.zero, none, 0, Nat.zero_le _, rfl, K0.out, Dy.zero_v⟩
  case round =>
    obtain ⟨k, d, C, c, hk, rfl, hK, hv⟩ := hrel
    have KR := Lib.hid hK; have HV := Lib.hid hv
    clear hK hv
    by_cases hlt : (k : Int) < (xs.length : Int)
    · have hkx : k < xs.length := by omega
      obtain ⟨ba, oa, hA, _, hca⟩ := (KR.out.arg (.tail _ (.head _))).reads.2 (by omega)
      obtain ⟨bb, ob, hB, _, hcb⟩ := (KR.out.arg (.head _)).reads.2 (by have := HLEN.out; omega)
      have hcell := hca k hkx
      have H1 := Lib.hid (HFX.out k hkx); have H2 := Lib.hid (HFY.out k hkx)
      have hRk := HR.out (k + 1) hkx
      have hRm := HRM.out k hkx
      have hs : sumR t (k + 1) = sumR t k + fv (ge xs k) * fv (ge ys k) := by show sumR t k + t k = _; rw [HT.out]
      have HS := Lib.hid hs; have HRK := Lib.hid hRk; have HRM2 := Lib.hid hRm
      have hylen : (k : Int) < (ys.length : Int) := by have := HLEN.out; omega
      subst hA hB
      clear hca hcb hRk hRm hs hkx
      change wr.cell? ⟨ba, oa + k, none⟩ = some (.float .f64 (ge xs k)) at hcell
      go_wp2_with fail
      refine (H1.out _).mono ?_
      rintro e w1 ⟨⟨v, rfl, hv⟩, hb1⟩
      obtain ⟨d1, A1, c1, rfl, ha1, hv1⟩ := hv.a
      have k3 := (KR.out.call hb1).push ha1
      have hcy : (w1.alloc (.cells #[.bool d1.neg, .slice A1 (nd d1.n).length c1, .int .i64 d1.e] 30)).cell? ⟨bb, ob + k, none⟩ = some (.float .f64 (ge ys k)) := by
        obtain ⟨bb', ob', hB', _, hcb⟩ := (k3.arg (.head _)).reads.2 (by have := HLEN.out; omega)
        cases hB'
        exact hcb k (by have := HLEN.out; omega)
      have K3 := Lib.hid k3; have HV1 := Lib.hid hv1
      unfold dyV
      clear hv ha1 hv1 hb1 k3
      go_wp2_with fail
      refine (H2.out _).mono ?_
      rintro e w2 ⟨⟨v, rfl, hv⟩, hb2⟩
      obtain ⟨d2, A2, c2, rfl, ha2, hv2⟩ := hv.a
      have k4 := (K3.out.call hb2).push ha2
      have hg1 : w1.heap.size < (w1.alloc (.cells #[.bool d1.neg, .slice A1 (nd d1.n).length c1, .int .i64 d1.e] 30)).heap.size := by simp
      unfold dyV
      clear hv hcy
      go_wp2_with fail
      obtain ⟨W, hW⟩ : ∃ W, W = w2.alloc (.cells #[.bool d2.neg, .slice A2 (nd d2.n).length c2, .int .i64 d2.e] 30) := ⟨_, rfl⟩
      rw [← hW] at k4 ⊢
      have KW := Lib.hid k4
      have HMU := Lib.hid (fun W' (h : Below W.heap.size W W') => mul03_any _ _ _ _ W' ((k4.call h).val (.tail _ (.head _))).v ((k4.call h).val (.head _)).v (R_Q (by rw [HV1.out, hv2]; exact HRM2.out) (by omega) (by omega)))
      have HAD := Lib.hid (fun W' v (h : Below W.heap.size W W') hv => add03_any _ v _ (d1.v * d2.v) W' ((k4.call h).val (.tail _ (.tail _ (.head _)))).v hv (R_Q (by rw [HV1.out, hv2, HV.out, ← HS.out]; exact HRK.out) (by omega) (by omega)))
      have hsv : d.v + d1.v * d2.v = sumR t (k + 1) := by rw [HV1.out, hv2, HV.out, HS.out]
      have HSV := Lib.hid hsv
      unfold dyV at HMU HAD
      obtain ⟨a0, a1, a2⟩ := (k4.box (.head _)).c3
      obtain ⟨b0, b1, b2⟩ := (k4.box (.tail _ (.head _))).c3
      obtain ⟨e0, e1, e2⟩ := (k4.box (.tail _ (.tail _ (.head _)))).c3
      clear hsv k4 ha2 hv2 hb2 hW HV HV1 HS
      generalize w2.heap.size = g3 at *
      generalize w1.heap.size = g2 at *
      generalize d1.v * d2.v = p at *
      go_region_with (first
        | (go_at_call 25; (refine (HMU.out _ ?_).mono ?_); (exact (by repeat (first | assumption | exact Below.refl _ _ | refine Below.allocs ?_ _ | refine Below.drews ?_ | refine Below.chain ?_ (by assumption)))); rintro e w5 ⟨⟨v, rfl, hv⟩, hb5⟩; obtain ⟨d5, A5, c5, rfl, ha5, hv5⟩ := hv.a; have hbW : Below W.heap.size W w5 := (Below.chain (by repeat (first | assumption | exact Below.refl _ _ | refine Below.allocs ?_ _ | refine Below.drews ?_ | refine Below.chain ?_ (by assumption))) hb5); obtain ⟨e0', e1', e2'⟩ := ((KW.out.call hbW).box (.tail _ (.tail _ (.head _)))).c3; unfold dyV)
        | (go_at_call 36; (refine (HAD.out _ _ ?_ (by unfold dyV at hv; exact hv.below (by repeat (first | assumption | exact Below.refl _ _ | refine Below.allocs ?_ _ | refine Below.drews ?_ | refine Below.chain ?_ (by assumption))))).mono ?_); (exact (by repeat (first | assumption | exact Below.refl _ _ | refine Below.allocs ?_ _ | refine Below.drews ?_ | refine Below.chain ?_ (by assumption)))); rintro e w6 ⟨⟨v, rfl, hvv⟩, hb6⟩; obtain ⟨d6, A6, c6, rfl, ha6, hv6⟩ := hvv.a; have hbX : Below W.heap.size W w6 := (Below.chain (by repeat (first | assumption | exact Below.refl _ _ | refine Below.allocs ?_ _ | refine Below.drews ?_ | refine Below.chain ?_ (by assumption))) hb6); obtain ⟨y0, y1, y2⟩ := ((KW.out.call hbX).box (.tail _ (.tail _ (.head _)))).f3; obtain ⟨z0, z1, z2⟩ := ((KW.out.call hbX).box (.tail _ (.tail _ (.head _)))).c3; unfold dyV))
      all_goals
        have KZ := Lib.hid (((KW.out.call hbX).store (.tail _ (.tail _ (.head _))) (L' := [(w.heap.size, Dy.zero, none, 0)]) (fun y hy => by rw [List.mem_singleton] at hy; subst hy; exact ⟨.tail _ (.tail _ (.tail _ (.head _))), Nat.ne_of_lt (Nat.lt_succ_self _)⟩) ha6))
        have HV6 := Lib.hid (hv6.trans HSV.out)
        clear ha6 hv6
        go_wp2
        go_roundw
        case rel => exact ⟨k + 1, d6, A6, c6, by omega, by go_num, KZ.out, HV6.out⟩
        case measure => simp [intOf]; omega
    · obtain rfl : k = xs.length := by omega
      obtain ⟨a0, a1, a2⟩ := (KR.out.box (.head _)).c3
      obtain ⟨f0, f1, f2⟩ := (KR.out.box (.tail _ (.head _))).f3
      obtain ⟨z0, z1, z2⟩ := (KR.out.box (.tail _ (.head _))).c3
      have KZ := Lib.hid (KR.out.store (.tail _ (.head _)) (L' := []) (fun y hy => absurd hy List.not_mem_nil) (KR.out.val (.head _)))
      go_wp2
      refine ret_dy2 (v0 := .bool d.neg) (v1 := .slice C (nd d.n).length c) (v2 := .int .i64 d.e) (g := w.heap.size) rfl rfl rfl (KZ.out.box (.head _)) rfl ?_
      exact ⟨⟨_, rfl, by rw [← HV.out]; exact (KZ.out.val (.head _)).v⟩, KZ.out.below⟩
end Go.Proofs.Ytfnhcgpdlhndhaa

/- Contracts of dyads: Sum; Times of layer 4. -/
set_option linter.unusedVariables false
namespace Lev
theorem Q_nat {k : Nat} (h : k < 18446744073709551616) : Q (k : Rat) := by
  refine R_Q (a := 0) (b := 64) (R_nat ?_) (by omega) (by omega)
  rw [show (64 : Int) = ((64 : Nat) : Int) from rfl, pw_nat]
  exact cast_lt.2 (by omega)
end Lev
namespace Go.Proofs.Ytfnhcgpdlhndhaa
open Go.RowKit Go.Shelf Lev

set_option maxRecDepth 100000 in
set_option maxHeartbeats 1000000 in
theorem sum03_any (xs : List Nat) (A : Option Addr) (ca : Nat) (w : World) (hx : SlArg w A xs ca) (hl : xs.length ≤ 1000) (hfx : ∀ i, i < xs.length → fin (ge xs i)) :
    Calls Try.prog 23 #[.slice A xs.length ca] w fun e w' => (∃ v, e = .returned (.tuple #[v, .bool true]) ∧ DyV w' v (sumR (fun i => fv (ge xs i)) xs.length)) ∧ Below w.heap.size w w' := by
  have k0 := ((KeepD.start w).more hx).pushz.pushz
  rw [World.size_alloc] at k0
  have K0 := Lib.hid k0
  have HFX := Lib.hid (fun i hi W => from03_any (ge xs i) (hx.reads.lt i) (hfx i hi) W)
  have hR : ∀ k, k ≤ xs.length → R 1074 (1025 + k) (sumR (fun i => fv (ge xs i)) k) := fun k hk => R_sum k (fun i hi => (R_fv (hfx i (by omega))))
  have HR := Lib.hid hR
  obtain ⟨t, ht⟩ : ∃ t : Nat → Rat, t = fun i => fv (ge xs i) := ⟨_, rfl⟩
  rw [← ht] at HR ⊢
  have HT := Lib.hid ht
  clear k0 hx hfx hR ht
  go_enter Try.func23, Try.ntmps23
  go_wp2_with fail
  go_loopw [5] (fun iv wr => ∃ (k : Nat) (d : Dy) (C : Option Addr) (c : Nat), k ≤ xs.length ∧ iv = .int .i64 (k : Int) ∧ KeepD w wr [(w.heap.size + 1, d, C, c), (w.heap.size, Dy.zero, none, 0)] [(A, xs, ca)] [] ∧ d.v = sumR t k) (fun iv _ => xs.length - (intOf iv).toNat)
  case atStart => exact ⟨0, Dy.zero, none, 0, Nat.zero_le _, rfl, K0.out, Dy.zero_v⟩
  case round =>
    obtain ⟨k, d, C, c, hk, rfl, hK, hv⟩ := hrel
    have KR := Lib.hid hK; have HV := Lib.hid hv
    clear hK hv
    by_cases hlt : (k : Int) < (xs.length : Int)
    · have hkx : k < xs.length := by omega
      obtain ⟨ba, oa, hA, _, hca⟩ := (KR.out.arg (.head _)).reads.2 (by omega)
      have hcell := hca k hkx
      have H1 := Lib.hid (HFX.out k hkx)
      have hRk := HR.out (k + 1) hkx
      have hs : sumR t (k + 1) = sumR t k + fv (ge xs k) := by show sumR t k + t k = _; rw [HT.out]
      have HS := Lib.hid hs; have HRK := Lib.hid hRk
      subst hA
      clear hca hRk hs hkx
      change wr.cell? ⟨ba, oa + k, none⟩ = some (.float .f64 (ge xs k)) at hcell
      go_wp2_with fail
      refine (H1.out _).mono ?_
      rintro e w1 ⟨⟨v, rfl, hv⟩, hb1⟩
      obtain ⟨d1, A1, c1, rfl, ha1, hv1⟩ := hv.a
      have k3 := (KR.out.call hb1).push ha1
      unfold dyV
      clear hv ha1 hcell
      obtain ⟨W, hW⟩ : ∃ W, W = w1.alloc (.cells #[.bool d1.neg, .slice A1 (nd d1.n).length c1, .int .i64 d1.e] 30) := ⟨_, rfl⟩
      rw [← hW] at k3
      have HAD := add03_any _ _ _ _ W (k3.val (.tail _ (.head _))).v (k3.val (.head _)).v (R_Q (by rw [hv1, HV.out, ← HS.out]; exact HRK.out) (by omega) (by omega))
      rw [show d.v + d1.v = sumR t (k + 1) from by rw [hv1, HV.out, HS.out]] at HAD
      have HAD := Lib.hid HAD
      have K3 := Lib.hid k3
      obtain ⟨a0, a1, a2⟩ := (k3.box (.head _)).c3
      obtain ⟨b0, b1, b2⟩ := (k3.box (.tail _ (.head _))).c3
      have HW := Lib.hid hW
      rw [hW] at a0 a1 a2 b0 b1 b2
      clear hW k3 hb1 hv1 HV HS
      go_wp2_with fail
      rw [← HW.out]
      unfold dyV at HAD
      refine HAD.out.mono ?_
      rintro e w2 ⟨⟨v, rfl, hv⟩, hb2⟩
      obtain ⟨d2, A2, c2, rfl, ha2, hv2⟩ := hv.a
      unfold dyV
      clear a0 a1 a2 b0 b1 b2
      have k4 := K3.out.call hb2
      obtain ⟨b0, b1, b2⟩ := (k4.box (.tail _ (.head _))).c3
      obtain ⟨f0, f1, f2⟩ := (k4.box (.tail _ (.head _))).f3
      have KZ := Lib.hid (k4.store (.tail _ (.head _)) (L' := [(w.heap.size, Dy.zero, none, 0)]) (fun y hy => by rw [List.mem_singleton] at hy; subst hy; exact ⟨.tail _ (.tail _ (.head _)), Nat.ne_of_lt (Nat.lt_succ_self _)⟩) ha2)
      have HV2 := Lib.hid hv2
      clear ha2 hv2 hv k4 hb2
      go_wp2
      go_roundw
      case rel => exact ⟨k + 1, d2, A2, c2, by omega, by go_num, KZ.out, HV2.out⟩
      case measure => simp [intOf]; omega
    · obtain rfl : k = xs.length := by omega
      obtain ⟨a0, a1, a2⟩ := (KR.out.box (.head _)).c3
      obtain ⟨z0, z1, z2⟩ := (KR.out.box (.tail _ (.head _))).c3
      obtain ⟨f0, f1, f2⟩ := (KR.out.box (.tail _ (.head _))).f3
      have KZ := Lib.hid (KR.out.store (.tail _ (.head _)) (L' := []) (fun y hy => absurd hy List.not_mem_nil) (KR.out.val (.head _)))
      go_wp2
      refine ret_dy2 (v0 := .bool d.neg) (v1 := .slice C (nd d.n).length c) (v2 := .int .i64 d.e) (g := w.heap.size) rfl rfl rfl (KZ.out.box (.head _)) rfl ?_
      exact ⟨⟨_, rfl, by rw [← HV.out]; exact (KZ.out.val (.head _)).v⟩, KZ.out.below⟩

theorem run_maxY {P : Program} (w : World) (ts : Array TypeId) (t : TypeId) (x y : Int) : (Builtin.max_ ts t #[.int .i64 x, .int .i64 y]).run P w = .ok (.int .i64 (max x y)) w := by
  rw [run_max_int2]
  congr 2
  split <;> omega
attribute [local go_sem high] run_maxY

set_option maxRecDepth 100000 in
set_option maxHeartbeats 1000000 in
theorem times04_any (v : Value) (x : Rat) (k : Nat) (w : World) (h : DyV w v x) (hk : k < 9223372036854775808) (hq : Q (x * (k : Rat))) :
    Calls Try.prog 16 #[v, .int .i64 (k : Int)] w fun e w' => (∃ v', e = .returned v' ∧ DyV w' v' (x * (k : Rat))) ∧ Below w.heap.size w w' := by
  obtain ⟨d, A, c, rfl, ha, hv⟩ := h.a
  have k0 := ((KeepD.start w).push ha).pushz
  rw [World.size_alloc] at k0
  obtain ⟨W, hW⟩ : ∃ W, W = (w.alloc (.cells #[.bool d.neg, .slice A (nd d.n).length c, .int .i64 d.e] 30)).alloc (.cells #[.bool false, .slice none 0 0, .int .i64 0] 30) := ⟨_, rfl⟩
  rw [← hW] at k0
  have K3 := Lib.hid k0
  have hw : max 0 (k : Int) = (k : Int) := by omega
  have hw2 : IntKind.u64.wrap (k : Int) = (k : Int) := by rw [IntKind.wrap_u64]; omega
  have HFR := Lib.hid (fun W => from02_any k (by omega) W)
  have HNO := Lib.hid (fun W A c h => norm_any false 0 (nd k) A c W h (by omega) (Nat.le_trans (nd_len_le (show k ≤ 18446744073709551615 by omega)) nd_max) (k : Rat) (by rw [vN_nd, sv_false, pw_zero, Rat.mul_one]) (Q_nat (by omega)))
  have HMU := fun W' v' hW h' => mul03_any (dyV d A c) v' x (k : Rat) W' (h.below hW) h' hq
  have HKEEP := Lib.hid (fun Y (h : Below (w.heap.size + 1) W Y) => show (Y.cell? ⟨w.heap.size, 0, none⟩ = some (.bool d.neg) ∧ Y.cell? ⟨w.heap.size, 1, none⟩ = some (.slice A (nd d.n).length c) ∧ Y.cell? ⟨w.heap.size, 2, none⟩ = some (.int .i64 d.e)) ∧ Below (w.heap.size + 1) W Y from
    ⟨((K3.out.box (.tail _ (.head _))).below h (by omega)).c3, h⟩)
  have hWs : w.heap.size + 1 ≤ W.heap.size := Nat.le_of_lt (K3.out.box (.head _)).lt
  have HW := Lib.hid hW
  unfold dyV at HMU ⊢
  have HMU := Lib.hid HMU
  clear h ha hv k0 hW hq
  go_enter Try.func16, Try.ntmps16
  go_wp2_with fail
  rw [← HW.out]
  go_region_held3 (fun Y => (Y.cell? ⟨w.heap.size, 0, none⟩ = some (.bool d.neg) ∧ Y.cell? ⟨w.heap.size, 1, none⟩ = some (.slice A (nd d.n).length c) ∧ Y.cell? ⟨w.heap.size, 2, none⟩ = some (.int .i64 d.e)) ∧ Below (w.heap.size + 1) W Y)
    ((refine HKEEP.out _ ?_; first | (refine Below.setCell (Below.setCell (Below.setCell hb8 (by dsimp only; omega) _) (by dsimp only; omega) _) (by dsimp only; omega) _) | (refine Below.mono (B := W.heap.size) ?_ hWs; repeat (first | assumption | exact Below.refl _ _ | refine Below.allocs ?_ _ | refine Below.drews ?_ | refine Below.chain ?_ (by assumption)))))
    (first
      | (go_at_call 45; (refine (HFR.out _).mono ?_); rintro e w4 ⟨⟨v, rfl, B4, c4, rfl, hv4⟩, hb4⟩)
      | (go_at_call 44; (with_reducible refine (HNO.out _ _ _ (hv4.below (by repeat (first | assumption | exact Below.refl _ _ | refine Below.allocs ?_ _ | refine Below.drews ?_ | refine Below.chain ?_ (by assumption))))).mono ?_); rintro e w5 ⟨⟨v, rfl, hv⟩, hb5⟩; obtain ⟨d5, A5, c5, rfl, ha5, hv5⟩ := hv.a; unfold dyV at *)
      | (go_at_call 25; (with_reducible refine (HMU.out _ _ (Below.chain K3.out.below (by repeat (first | assumption | exact Below.refl _ _ | refine Below.allocs ?_ _ | refine Below.drews ?_ | refine Below.chain ?_ (by assumption)))) (hv.below (by repeat (first | assumption | exact Below.refl _ _ | refine Below.allocs ?_ _ | refine Below.drews ?_ | refine Below.chain ?_ (by assumption))))).mono ?_); rintro e w6 ⟨⟨v, rfl, hv⟩, hb6⟩; obtain ⟨d3, A3, c3, rfl, ha3, hv3⟩ := hv.a; have hb7 : Below W.heap.size W w6 := (Below.chain (by repeat (first | assumption | exact Below.refl _ _ | refine Below.allocs ?_ _ | refine Below.drews ?_ | refine Below.chain ?_ (by assumption))) hb6); have hb8 : Below (w.heap.size + 1) W w6 := hb7.mono hWs; have bx := (K3.out.call hb7).box (.head _); obtain ⟨x0, x1, x2⟩ := bx.c3; obtain ⟨y0, y1, y2⟩ := bx.f3; unfold dyV))
  all_goals
    have KZ := Lib.hid ((K3.out.call hb7).store (.head _) (L' := []) (fun y hy => absurd hy List.not_mem_nil) ha3)
    have HV3 := Lib.hid hv3
    go_wp2
    refine ret_dy1 (v0 := .bool d3.neg) (v1 := .slice A3 (nd d3.n).length c3) (v2 := .int .i64 d3.e) (g := w.heap.size + 1) rfl rfl (KZ.out.box (.head _)) rfl ?_
    exact ⟨⟨_, rfl, by rw [← HV3.out]; exact (KZ.out.val (.head _)).v⟩, KZ.out.below⟩
end Go.Proofs.Ytfnhcgpdlhndhaa

/- Contracts of dyads: how far a float is from a dyad (apart, near). -/
set_option linter.unusedVariables false
namespace Go.Proofs.Ytfnhcgpdlhndhaa
open Go.RowKit Go.Shelf Lev

theorem namedQ {Q : Exit → Act → World → Prop} {e : Exit} {a : Act} {w : World} (h : ∀ W, W = w → Q e a W) : Q e a w := h w rfl
theorem KeepD.name {w W : World} {L M O} {x : Nat} {d : Dy} {A : Option Addr} {c : Nat} (h : KeepD w W ((x, d, A, c) :: L) M O) : ∃ g, x = g ∧ KeepD w W ((g, d, A, c) :: L) M O := ⟨x, rfl, h⟩
theorem ownZ_newd {W X w5 : World} (h : Below W.heap.size W X) (hb : Below (X.alloc (.cells #[.bool false, .slice none 0 0, .int .i64 0] 30)).drew.heap.size (X.alloc (.cells #[.bool false, .slice none 0 0, .int .i64 0] 30)).drew w5) : OwnZ W.heap.size w5 X.heap.size :=
  ownZ_new h (Below.trans (Below.refl _ _).drew hb)

set_option maxRecDepth 100000 in
set_option maxHeartbeats 1000000 in
theorem apart05_any (b : Nat) (v1 v2 v3 : Value) (k : Nat) (D S L : Rat) (w : World) (hb : b < 18446744073709551616) (hf : fin b) (h1 : DyV w v1 D) (h2 : DyV w v2 S) (h3 : DyV w v3 L) (hk : k < 1048576) (hD : R 9000 9000 D) (hS : R 9000 9000 S) (hL : R 9000 9000 L) :
    Calls Try.prog 15 #[.float .f64 b, v1, v2, .int .i64 (k : Int), v3] w fun e w' => e = .returned (.bool (decide (S * (k : Rat) * pw (-53) + L < ab (fv b - D)))) ∧ Below w.heap.size w w' := by
  obtain ⟨d1, A1, c1, rfl, ha1, hv1⟩ := h1.a
  obtain ⟨d2, A2, c2, rfl, ha2, hv2⟩ := h2.a
  obtain ⟨d3, A3, c3, rfl, ha3, hv3⟩ := h3.a
  have k1 := (KeepD.start w).push ha1
  have k2 := k1.push (ha2.below ((Below.refl _ _).alloc (Nat.le_refl _) _))
  have k3 := k2.push ((ha3.below ((Below.refl _ _).alloc (Nat.le_refl _) _)).below ((Below.refl _ _).alloc (Nat.le_refl _) _))
  rw [World.size_alloc, World.size_alloc] at k3
  have K0 := Lib.hid k3
  have HFR := Lib.hid (fun W => from03_any b hb hf W)
  unfold dyV
  clear k1 k2 k3
  go_enter Try.func15, Try.ntmps15
  go_wp2_with fail
  refine (HFR.out _).mono ?_
  rintro e w1 ⟨⟨v, rfl, hv⟩, hb1⟩
  obtain ⟨d4, A4, c4, rfl, ha4, hv4⟩ := hv.a
  have k4 := (K0.out.call hb1).push ha4
  unfold dyV
  obtain ⟨a0, a1, a2⟩ := (k4.box (.tail _ (.head _))).c3
  obtain ⟨b0, b1, b2⟩ := (k4.box (.tail _ (.tail _ (.head _)))).c3
  have KW := Lib.hid k4
  obtain ⟨W, hW⟩ : ∃ W, W = w1.alloc (.cells #[.bool d4.neg, .slice A4 (nd d4.n).length c4, .int .i64 d4.e] 30) := ⟨_, rfl⟩
  rw [← hW] at k4 KW
  have hWs := World.size_alloc w1 (.cells #[.bool d4.neg, .slice A4 (nd d4.n).length c4, .int .i64 d4.e] 30)
  rw [← hW] at hWs
  have HPW := Lib.hid (fun W' => pow04_any (-53) (by omega) (by omega) W')
  have hR1 : R 9000 9020 (d2.v * (k : Rat)) := R_mul (a := 9000) (b := 9000) (c := 0) (d := 20) (by rw [hv2]; exact hS) (R_nat (n := k) (b := 20) (by rw [show (20 : Int) = ((20 : Nat) : Int) from rfl, pw_nat]; exact cast_lt.2 (by omega)))
  have hR2 : R 9053 9021 (d2.v * (k : Rat) * pw (-53)) := (R_mul (a := 9000) (b := 9020) (c := 53) (d := 1) hR1 (R_pw (by omega) (by omega)))
  have hR3 : R 9053 9022 (d2.v * (k : Rat) * pw (-53) + d3.v) := R_add hR2 (by rw [hv3]; exact R_mono hL (by omega) (by omega))
  have HTI := Lib.hid (fun W' (h : Below W.heap.size W W') => times04_any _ d2.v k W' ((k4.call h).val (.tail _ (.tail _ (.head _)))).v (by omega) (R_Q hR1 (by omega) (by omega)))
  have hR4 : R 9000 9001 (d4.v - d1.v) := by rw [hv4, hv1]; exact R_sub (a := 9000) (b := 9000) (R_mono (R_fv hf) (by omega) (by omega)) hD
  have hres : decide (0 < cmpQ (ab (d4.v - d1.v)) (d2.v * (k : Rat) * pw (-53) + d3.v)) = decide (S * (k : Rat) * pw (-53) + L < ab (fv b - D)) := by
    rw [hv4, hv1, hv2, hv3]
    refine decide_eq_decide.2 ?_
    rw [← Int.not_le, cmpQ_le, Rat.not_le]
  have HR4 := Lib.hid hR4; have HRES := Lib.hid hres
  have HMU := Lib.hid (fun W' u1 u2 x1 x2 => mul03_any u1 u2 (d2.v * (k : Rat)) (pw (-53)) W' x1 x2 (R_Q hR2 (by omega) (by omega)))
  have HAD := Lib.hid (fun W' u1 (h : Below W.heap.size W W') x1 => add03_any u1 _ (d2.v * (k : Rat) * pw (-53)) d3.v W' x1 ((k4.call h).val (.tail _ (.head _))).v (R_Q hR3 (by omega) (by omega)))
  have HKEEP := Lib.hid (fun Y (h : Below W.heap.size W Y) => show ((Y.cell? ⟨w.heap.size + 2, 0, none⟩ = some (.bool d3.neg) ∧ Y.cell? ⟨w.heap.size + 2, 1, none⟩ = some (.slice A3 (nd d3.n).length c3) ∧ Y.cell? ⟨w.heap.size + 2, 2, none⟩ = some (.int .i64 d3.e)) ∧ Y.cell? ⟨w.heap.size + 1, 0, none⟩ = some (.bool d2.neg) ∧ Y.cell? ⟨w.heap.size + 1, 1, none⟩ = some (.slice A2 (nd d2.n).length c2) ∧ Y.cell? ⟨w.heap.size + 1, 2, none⟩ = some (.int .i64 d2.e)) ∧ Below W.heap.size W Y from
    ⟨⟨((KW.out.call h).box (.tail _ (.head _))).c3, ((KW.out.call h).box (.tail _ (.tail _ (.head _)))).c3⟩, h⟩)
  unfold dyV at HTI HAD
  have HWW := Lib.hid hW
  clear hWs k4 hW a0 a1 a2 b0 b1 b2 hb1
  generalize hv2x : d2.v * (k : Rat) = P1 at *
  generalize hv2y : P1 * pw (-53) = P2 at *
  clear hR1 hR2 hR4 hres
  go_wp2_with fail
  rw [← HWW.out]
  generalize w1.heap.size = g11 at *
  go_region_held3 (fun Y => ((Y.cell? ⟨w.heap.size + 2, 0, none⟩ = some (.bool d3.neg) ∧ Y.cell? ⟨w.heap.size + 2, 1, none⟩ = some (.slice A3 (nd d3.n).length c3) ∧ Y.cell? ⟨w.heap.size + 2, 2, none⟩ = some (.int .i64 d3.e)) ∧ Y.cell? ⟨w.heap.size + 1, 0, none⟩ = some (.bool d2.neg) ∧ Y.cell? ⟨w.heap.size + 1, 1, none⟩ = some (.slice A2 (nd d2.n).length c2) ∧ Y.cell? ⟨w.heap.size + 1, 2, none⟩ = some (.int .i64 d2.e)) ∧ Below W.heap.size W Y)
    ((refine HKEEP.out _ ?_; first | (refine Below.setCell (Below.setCell (Below.setCell hbW (by exact bz.ge) _) (by exact bz.ge) _) (by exact bz.ge) _) | (repeat (first | assumption | exact Below.refl _ _ | refine Below.allocs ?_ _ | refine Below.drews ?_ | refine Below.chain ?_ (by assumption)))))
    (first
      | (go_at_call 16; (refine (HTI.out _ (by repeat (first | assumption | exact Below.refl _ _ | refine Below.allocs ?_ _ | refine Below.drews ?_ | refine Below.chain ?_ (by assumption)))).mono ?_); rintro e w5 ⟨⟨v, rfl, hv⟩, hb5⟩; obtain ⟨d5, A5, c5, rfl, ha5, hv5⟩ := hv.a; unfold dyV at *; (first | (have bz := ownZ_new (W := W) (by repeat (first | assumption | exact Below.refl _ _ | refine Below.allocs ?_ _ | refine Below.drews ?_ | refine Below.chain ?_ (by assumption))) hb5) | (have bz := ownZ_newd (W := W) (by repeat (first | assumption | exact Below.refl _ _ | refine Below.allocs ?_ _ | refine Below.drews ?_ | refine Below.chain ?_ (by assumption))) hb5) | (have bz := bz.call hb5) | skip); (try (obtain ⟨x0, x1, x2⟩ := bz.bk.c3; obtain ⟨y0, y1, y2⟩ := bz.bk.f3)))
      | (go_at_call 17; (refine (HPW.out _).mono ?_); rintro e w6 ⟨⟨v, rfl, hpv⟩, hb6⟩; obtain ⟨d6, A6, c6, rfl, ha6, hv6⟩ := hpv.a; unfold dyV at *; (first | (have bz := ownZ_new (W := W) (by repeat (first | assumption | exact Below.refl _ _ | refine Below.allocs ?_ _ | refine Below.drews ?_ | refine Below.chain ?_ (by assumption))) hb6) | (have bz := ownZ_newd (W := W) (by repeat (first | assumption | exact Below.refl _ _ | refine Below.allocs ?_ _ | refine Below.drews ?_ | refine Below.chain ?_ (by assumption))) hb6) | (have bz := bz.call hb6) | skip); (try (obtain ⟨x0, x1, x2⟩ := bz.bk.c3; obtain ⟨y0, y1, y2⟩ := bz.bk.f3)))
      | (go_at_call 25; (with_reducible refine (HMU.out _ _ _ (hv.below (by repeat (first | assumption | exact Below.refl _ _ | refine Below.allocs ?_ _ | refine Below.drews ?_ | refine Below.chain ?_ (by assumption)))) (hpv.below (by repeat (first | assumption | exact Below.refl _ _ | refine Below.allocs ?_ _ | refine Below.drews ?_ | refine Below.chain ?_ (by assumption))))).mono ?_); rintro e w7 ⟨⟨v, rfl, hmv⟩, hb7⟩; obtain ⟨d7, A7, c7, rfl, ha7, hv7⟩ := hmv.a; unfold dyV at *; (first | (have bz := ownZ_new (W := W) (by repeat (first | assumption | exact Below.refl _ _ | refine Below.allocs ?_ _ | refine Below.drews ?_ | refine Below.chain ?_ (by assumption))) hb7) | (have bz := ownZ_newd (W := W) (by repeat (first | assumption | exact Below.refl _ _ | refine Below.allocs ?_ _ | refine Below.drews ?_ | refine Below.chain ?_ (by assumption))) hb7) | (have bz := bz.call hb7) | skip); (try (obtain ⟨x0, x1, x2⟩ := bz.bk.c3; obtain ⟨y0, y1, y2⟩ := bz.bk.f3)))
      | (go_at_call 36; (with_reducible refine (HAD.out _ _ (by repeat (first | assumption | exact Below.refl _ _ | refine Below.allocs ?_ _ | refine Below.drews ?_ | refine Below.chain ?_ (by assumption))) (hmv.below (by repeat (first | assumption | exact Below.refl _ _ | refine Below.allocs ?_ _ | refine Below.drews ?_ | refine Below.chain ?_ (by assumption))))).mono ?_); rintro e w8 ⟨⟨v, rfl, hav⟩, hb8⟩; obtain ⟨d8, A8, c8, rfl, ha8, hv8⟩ := hav.a; unfold dyV at *; (first | (have bz := ownZ_new (W := W) (by repeat (first | assumption | exact Below.refl _ _ | refine Below.allocs ?_ _ | refine Below.drews ?_ | refine Below.chain ?_ (by assumption))) hb8) | (have bz := ownZ_newd (W := W) (by repeat (first | assumption | exact Below.refl _ _ | refine Below.allocs ?_ _ | refine Below.drews ?_ | refine Below.chain ?_ (by assumption))) hb8) | (have bz := bz.call hb8) | skip); (try (obtain ⟨x0, x1, x2⟩ := bz.bk.c3; obtain ⟨y0, y1, y2⟩ := bz.bk.f3)); have hbW : Below W.heap.size W w8 := (Below.chain (by repeat (first | assumption | exact Below.refl _ _ | refine Below.allocs ?_ _ | refine Below.drews ?_ | refine Below.chain ?_ (by assumption))) hb8)))
  all_goals
    have HBW := Lib.hid hbW; have HA8 := Lib.hid ha8; have HV8 := Lib.hid hv8
    refine namedQ ?_
    intro E hE
    first
    | (have ke := (KW.out.call HBW.out).push HA8.out
       rw [← hE] at ke
       obtain ⟨g8, hg8, ke⟩ := ke.name
       have KE := Lib.hid ke
       rw [hg8]
       clear hg8 ke)
    | (have ke := KW.out.fill HBW.out bz HA8.out
       unfold stored3 at ke
       rw [← hE] at ke
       obtain ⟨g8, hg8, ke⟩ := ke.name
       have KE := Lib.hid ke
       rw [hg8]
       clear hg8 ke)
    have HKE := Lib.hid (fun Y (h : Below E.heap.size E Y) => And.intro ((KE.out.call h).box (.head _)).c3 (And.intro ((KE.out.call h).box (.tail _ (.head _))).c3 (And.intro ((KE.out.call h).box (.tail _ (.tail _ (.tail _ (.tail _ (.head _)))))).c3 h)))
    have HSU := Lib.hid (fun Y (h : Below E.heap.size E Y) => sub03_any _ _ _ _ Y ((KE.out.call h).val (.tail _ (.head _))).v ((KE.out.call h).val (.tail _ (.tail _ (.tail _ (.tail _ (.head _)))))).v (R_Q HR4.out (by omega) (by omega)))
    have HABS := Lib.hid (fun Y u h => abs03_any u (d4.v - d1.v) Y h)
    have HCM := Lib.hid (fun Y u (h : Below E.heap.size E Y) h2 => cmp03_any u _ (ab (d4.v - d1.v)) _ Y h2 ((KE.out.call h).val (.head _)).v)
    rw [HV8.out] at HCM
    generalize cmpQ (ab (d4.v - d1.v)) (P2 + d3.v) = cq at *
    unfold dyV at HSU HCM
    clear hE hav hmv hpv hv hb5 hb6 hb7 hb8 ha5 ha6 ha7 hv5 hv6 hv7 hv2x hv2y hR3 ha8 hv8 HV8 HA8 HBW hbW
    go_wp2_with fail
    go_region_held3 (fun Y => ((Y.cell? ⟨g8, 0, none⟩ = some (.bool d8.neg) ∧ Y.cell? ⟨g8, 1, none⟩ = some (.slice A8 (nd d8.n).length c8) ∧ Y.cell? ⟨g8, 2, none⟩ = some (.int .i64 d8.e)) ∧ (Y.cell? ⟨g11, 0, none⟩ = some (.bool d4.neg) ∧ Y.cell? ⟨g11, 1, none⟩ = some (.slice A4 (nd d4.n).length c4) ∧ Y.cell? ⟨g11, 2, none⟩ = some (.int .i64 d4.e)) ∧ (Y.cell? ⟨w.heap.size, 0, none⟩ = some (.bool d1.neg) ∧ Y.cell? ⟨w.heap.size, 1, none⟩ = some (.slice A1 (nd d1.n).length c1) ∧ Y.cell? ⟨w.heap.size, 2, none⟩ = some (.int .i64 d1.e)) ∧ Below E.heap.size E Y))
      ((refine HKE.out _ ?_; (repeat (first | assumption | exact Below.refl _ _ | refine Below.allocs ?_ _ | refine Below.drews ?_ | refine Below.chain ?_ (by assumption)))))
      (first
        | (go_at_call 28; (refine (HSU.out _ (by repeat (first | assumption | exact Below.refl _ _ | refine Below.allocs ?_ _ | refine Below.drews ?_ | refine Below.chain ?_ (by assumption)))).mono ?_); rintro e y5 ⟨⟨v, rfl, hv⟩, hb5⟩; obtain ⟨d5, A5, c5, rfl, ha5, hv5⟩ := hv.a; unfold dyV at *)
        | (go_at_call 27; (with_reducible refine (HABS.out _ _ (hv.below (by repeat (first | assumption | exact Below.refl _ _ | refine Below.allocs ?_ _ | refine Below.drews ?_ | refine Below.chain ?_ (by assumption))))).mono ?_); rintro e y6 ⟨⟨v, rfl, hva⟩, hb6⟩; obtain ⟨d6, A6, c6, rfl, ha6, hv6⟩ := hva.a; unfold dyV at *)
        | (go_at_call 26; (with_reducible refine (HCM.out _ _ (by repeat (first | assumption | exact Below.refl _ _ | refine Below.allocs ?_ _ | refine Below.drews ?_ | refine Below.chain ?_ (by assumption))) (hva.below (by repeat (first | assumption | exact Below.refl _ _ | refine Below.allocs ?_ _ | refine Below.drews ?_ | refine Below.chain ?_ (by assumption))))).mono ?_); rintro e y7 ⟨rfl, hb7⟩; have hbE : Below E.heap.size E y7 := (Below.chain (by repeat (first | assumption | exact Below.refl _ _ | refine Below.allocs ?_ _ | refine Below.drews ?_ | refine Below.chain ?_ (by assumption))) hb7)))
    all_goals
      have HBE := Lib.hid (KE.out.call hbE).below
      go_wp2
      go_ret
      exact ⟨by rw [← HRES.out]; rfl, HBE.out⟩
end Go.Proofs.Ytfnhcgpdlhndhaa

/- Contracts of layer 6's law: exact, pair, near, sizes. -/
set_option linter.unusedVariables false
namespace Go.Proofs.Ytfnhcgpdlhndhaa
open Go.RowKit Go.Shelf Lev

set_option maxRecDepth 100000 in
set_option maxHeartbeats 1000000 in
theorem exact06_any (b : Nat) (hb : b < 18446744073709551616) (hf : fin b) (w : World) :
    Calls Try.prog 33 #[.float .f64 b] w fun e w' => (∃ v', e = .returned v' ∧ DyV w' v' (fv b)) ∧ Below w.heap.size w w' := by
  have K0 := Lib.hid ((KeepD.start w).pushz)
  have HFR := Lib.hid (fun W => from03_any b hb hf W)
  clear hb hf
  go_enter Try.func33, Try.ntmps33
  go_wp2_with fail
  refine (HFR.out _).mono ?_
  rintro e w1 ⟨⟨v, rfl, hv⟩, hb1⟩
  obtain ⟨d1, A1, c1, rfl, ha1, hv1⟩ := hv.a
  have k1 := (K0.out.call hb1).push ha1
  obtain ⟨z0, z1, z2⟩ := (k1.box (.tail _ (.head _))).c3
  obtain ⟨f0, f1, f2⟩ := (k1.box (.tail _ (.head _))).f3
  obtain ⟨a0, a1, a2⟩ := (k1.box (.head _)).c3
  have KZ := Lib.hid (k1.store (.tail _ (.head _)) (L' := []) (fun y hy => absurd hy List.not_mem_nil) (k1.val (.head _)))
  have HV1 := Lib.hid hv1
  unfold dyV
  clear hv ha1 hb1 hv1 k1
  go_wp2
  refine ret_dy1 (v0 := .bool d1.neg) (v1 := .slice A1 (nd d1.n).length c1) (v2 := .int .i64 d1.e) (g := w.heap.size) rfl rfl (KZ.out.box (.head _)) rfl ?_
  exact ⟨⟨_, rfl, by rw [← HV1.out]; exact (KZ.out.val (.head _)).v⟩, KZ.out.below⟩

set_option maxRecDepth 100000 in
set_option maxHeartbeats 1000000 in
theorem pair06_any (a x b y : Nat) (ha : a < 18446744073709551616) (hx : x < 18446744073709551616) (hb : b < 18446744073709551616) (hy : y < 18446744073709551616) (fa : fin a) (fx : fin x) (fb : fin b) (fy : fin y) (w : World) :
    Calls Try.prog 32 #[.float .f64 a, .float .f64 x, .float .f64 b, .float .f64 y] w fun e w' => (∃ v', e = .returned v' ∧ DyV w' v' (fv a * fv x + fv b * fv y)) ∧ Below w.heap.size w w' := by
  have K0 := Lib.hid ((KeepD.start w).pushz)
  have r1 := R_mul (R_fv fa) (R_fv fx)
  have r2 := R_mul (R_fv fb) (R_fv fy)
  have H1 := Lib.hid (fun W => exact06_any a ha fa W)
  have H2 := Lib.hid (fun W => exact06_any x hx fx W)
  have H3 := Lib.hid (fun W u1 u2 x1 x2 => mul03_any u1 u2 (fv a) (fv x) W x1 x2 (R_Q r1 (by omega) (by omega)))
  have H4 := Lib.hid (fun W => exact06_any b hb fb W)
  have H5 := Lib.hid (fun W => exact06_any y hy fy W)
  have H6 := Lib.hid (fun W u1 u2 x1 x2 => mul03_any u1 u2 (fv b) (fv y) W x1 x2 (R_Q r2 (by omega) (by omega)))
  have H7 := Lib.hid (fun W u1 u2 x1 x2 => add03_any u1 u2 (fv a * fv x) (fv b * fv y) W x1 x2 (R_Q (R_add r1 r2) (by omega) (by omega)))
  clear ha hx hb hy fa fx fb fy r1 r2
  go_enter Try.func32, Try.ntmps32
  go_wp2_with fail
  refine (H1.out _).mono ?_
  rintro e w1 ⟨⟨v, rfl, hv⟩, hb1⟩
  have K1 := Lib.hid (K0.out.call hb1)
  obtain ⟨d1, A1, c1, rfl, ha1, hv1⟩ := hv.a
  have HV1 := Lib.hid hv
  unfold dyV at HV1 ⊢
  clear hv ha1 hv1 hb1
  go_wp2_with fail
  refine (H2.out _).mono ?_
  rintro e w2 ⟨⟨v, rfl, hv⟩, hb2⟩
  have K2 := Lib.hid (K1.out.call hb2)
  have hk1 := HV1.out.below hb2
  clear HV1
  have HV1 := Lib.hid hk1
  clear hk1
  obtain ⟨d2, A2, c2, rfl, ha2, hv2⟩ := hv.a
  have HV2 := Lib.hid hv
  unfold dyV at HV2 ⊢
  clear hv ha2 hv2 hb2
  go_wp2_with fail
  refine (H3.out _ _ _ HV1.out HV2.out).mono ?_
  rintro e w3 ⟨⟨v, rfl, hv⟩, hb3⟩
  have K3 := Lib.hid (K2.out.call hb3)
  obtain ⟨d3, A3, c3, rfl, ha3, hv3⟩ := hv.a
  have HV3 := Lib.hid hv
  unfold dyV at HV3 ⊢
  clear hv ha3 hv3 hb3
  go_wp2_with fail
  refine (H4.out _).mono ?_
  rintro e w4 ⟨⟨v, rfl, hv⟩, hb4⟩
  have K4 := Lib.hid (K3.out.call hb4)
  have hk3 := HV3.out.below hb4
  clear HV3
  have HV3 := Lib.hid hk3
  clear hk3
  obtain ⟨d4, A4, c4, rfl, ha4, hv4⟩ := hv.a
  have HV4 := Lib.hid hv
  unfold dyV at HV4 ⊢
  clear hv ha4 hv4 hb4
  go_wp2_with fail
  refine (H5.out _).mono ?_
  rintro e w5 ⟨⟨v, rfl, hv⟩, hb5⟩
  have K5 := Lib.hid (K4.out.call hb5)
  have hk3 := HV3.out.below hb5
  clear HV3
  have HV3 := Lib.hid hk3
  clear hk3
  have hk4 := HV4.out.below hb5
  clear HV4
  have HV4 := Lib.hid hk4
  clear hk4
  obtain ⟨d5, A5, c5, rfl, ha5, hv5⟩ := hv.a
  have HV5 := Lib.hid hv
  unfold dyV at HV5 ⊢
  clear hv ha5 hv5 hb5
  go_wp2_with fail
  refine (H6.out _ _ _ HV4.out HV5.out).mono ?_
  rintro e w6 ⟨⟨v, rfl, hv⟩, hb6⟩
  have K6 := Lib.hid (K5.out.call hb6)
  have hk3 := HV3.out.below hb6
  clear HV3
  have HV3 := Lib.hid hk3
  clear hk3
  obtain ⟨d6, A6, c6, rfl, ha6, hv6⟩ := hv.a
  have HV6 := Lib.hid hv
  unfold dyV at HV6 ⊢
  clear hv ha6 hv6 hb6
  go_wp2_with fail
  refine (H7.out _ _ _ HV3.out HV6.out).mono ?_
  rintro e w7 ⟨⟨v, rfl, hv⟩, hb7⟩
  obtain ⟨d7, A7, c7, rfl, ha7, hv7⟩ := hv.a
  have k7 := K6.out.call hb7
  obtain ⟨z0, z1, z2⟩ := (k7.box (.head _)).c3
  obtain ⟨f0, f1, f2⟩ := (k7.box (.head _)).f3
  have KZ := Lib.hid (k7.store (.head _) (L' := []) (fun y hy => absurd hy List.not_mem_nil) ha7)
  have HV7 := Lib.hid hv7
  unfold dyV
  clear hv ha7 hb7 hv7 k7
  go_wp2
  refine ret_dy1 (v0 := .bool d7.neg) (v1 := .slice A7 (nd d7.n).length c7) (v2 := .int .i64 d7.e) (g := w.heap.size) rfl rfl (KZ.out.box (.head _)) rfl ?_
  exact ⟨⟨_, rfl, by rw [← HV7.out]; exact (KZ.out.val (.head _)).v⟩, KZ.out.below⟩

set_option maxRecDepth 100000 in
set_option maxHeartbeats 1000000 in
theorem sizes06_any (x y : Nat) (hx : x < 18446744073709551616) (hy : y < 18446744073709551616) (fx : fin x) (fy : fin y) (w : World) :
    Calls Try.prog 37 #[.float .f64 x, .float .f64 y] w fun e w' => (∃ v', e = .returned v' ∧ DyV w' v' (ab (fv x) + ab (fv y))) ∧ Below w.heap.size w w' := by
  have K0 := Lib.hid ((KeepD.start w).pushz)
  have r1 := R_ab (R_fv fx)
  have r2 := R_ab (R_fv fy)
  have H1 := Lib.hid (fun W => exact06_any x hx fx W)
  have H2 := Lib.hid (fun W u h => abs03_any u (fv x) W h)
  have H3 := Lib.hid (fun W => exact06_any y hy fy W)
  have H4 := Lib.hid (fun W u h => abs03_any u (fv y) W h)
  have H7 := Lib.hid (fun W u1 u2 x1 x2 => add03_any u1 u2 (ab (fv x)) (ab (fv y)) W x1 x2 (R_Q (R_add r1 r2) (by omega) (by omega)))
  clear hx hy fx fy r1 r2
  go_enter Try.func37, Try.ntmps37
  go_wp2_with fail
  refine (H1.out _).mono ?_
  rintro e w1 ⟨⟨v, rfl, hv⟩, hb1⟩
  have K1 := Lib.hid (K0.out.call hb1)
  obtain ⟨d1, A1, c1, rfl, ha1, hv1⟩ := hv.a
  have HV1 := Lib.hid hv
  unfold dyV at HV1 ⊢
  clear hv ha1 hv1 hb1
  go_wp2_with fail
  refine (H2.out _ _ HV1.out).mono ?_
  rintro e w2 ⟨⟨v, rfl, hv⟩, hb2⟩
  have K2 := Lib.hid (K1.out.call hb2)
  obtain ⟨d2, A2, c2, rfl, ha2, hv2⟩ := hv.a
  have HV2 := Lib.hid hv
  unfold dyV at HV2 ⊢
  clear hv ha2 hv2 hb2
  go_wp2_with fail
  refine (H3.out _).mono ?_
  rintro e w3 ⟨⟨v, rfl, hv⟩, hb3⟩
  have K3 := Lib.hid (K2.out.call hb3)
  have hk2 := HV2.out.below hb3
  clear HV2
  have HV2 := Lib.hid hk2
  clear hk2
  obtain ⟨d3, A3, c3, rfl, ha3, hv3⟩ := hv.a
  have HV3 := Lib.hid hv
  unfold dyV at HV3 ⊢
  clear hv ha3 hv3 hb3
  go_wp2_with fail
  refine (H4.out _ _ HV3.out).mono ?_
  rintro e w4 ⟨⟨v, rfl, hv⟩, hb4⟩
  have K4 := Lib.hid (K3.out.call hb4)
  have hk2 := HV2.out.below hb4
  clear HV2
  have HV2 := Lib.hid hk2
  clear hk2
  obtain ⟨d4, A4, c4, rfl, ha4, hv4⟩ := hv.a
  have HV4 := Lib.hid hv
  unfold dyV at HV4 ⊢
  clear hv ha4 hv4 hb4
  go_wp2_with fail
  refine (H7.out _ _ _ HV2.out HV4.out).mono ?_
  rintro e w7 ⟨⟨v, rfl, hv⟩, hb7⟩
  obtain ⟨d7, A7, c7, rfl, ha7, hv7⟩ := hv.a
  have k7 := K4.out.call hb7
  obtain ⟨z0, z1, z2⟩ := (k7.box (.head _)).c3
  obtain ⟨f0, f1, f2⟩ := (k7.box (.head _)).f3
  have KZ := Lib.hid (k7.store (.head _) (L' := []) (fun y hy => absurd hy List.not_mem_nil) ha7)
  have HV7 := Lib.hid hv7
  unfold dyV
  clear hv ha7 hb7 hv7 k7
  go_wp2
  refine ret_dy1 (v0 := .bool d7.neg) (v1 := .slice A7 (nd d7.n).length c7) (v2 := .int .i64 d7.e) (g := w.heap.size) rfl rfl (KZ.out.box (.head _)) rfl ?_
  exact ⟨⟨_, rfl, by rw [← HV7.out]; exact (KZ.out.val (.head _)).v⟩, KZ.out.below⟩

set_option maxRecDepth 100000 in
set_option maxHeartbeats 1000000 in
theorem near06_any (v1 v2 v3 v4 : Value) (k : Nat) (P Q2 S L : Rat) (w : World) (h1 : DyV w v1 P) (h2 : DyV w v2 Q2) (h3 : DyV w v3 S) (h4 : DyV w v4 L) (hk : k < 1048576) (hP : R 9000 9000 P) (hQ2 : R 9000 9000 Q2) (hS : R 9000 9000 S) (hL : R 9000 9000 L) :
    Calls Try.prog 31 #[v1, v2, v3, .int .i64 (k : Int), v4] w fun e w' => e = .returned (.bool (decide (ab (P - Q2) ≤ S * (k : Rat) * pw (-53) + L))) ∧ Below w.heap.size w w' := by
  obtain ⟨d1, A1, c1, rfl, ha1, hv1⟩ := h1.a
  obtain ⟨d2, A2, c2, rfl, ha2, hv2⟩ := h2.a
  obtain ⟨d3, A3, c3, rfl, ha3, hv3⟩ := h3.a
  obtain ⟨d4, A4, c4, rfl, ha4, hv4⟩ := h4.a
  have al := fun (W : World) (o : Obj) => (Below.refl W.heap.size W).alloc (Nat.le_refl _) o
  have k1 := (KeepD.start w).push ha1
  have k2 := k1.push (ha2.below (al _ _))
  have k3 := k2.push ((ha3.below (al _ _)).below (al _ _))
  have k4 := k3.push (((ha4.below (al _ _)).below (al _ _)).below (al _ _))
  rw [World.size_alloc, World.size_alloc, World.size_alloc] at k4
  obtain ⟨W, hW⟩ : ∃ W, W = (((w.alloc (.cells #[.bool d1.neg, .slice A1 (nd d1.n).length c1, .int .i64 d1.e] 30)).alloc (.cells #[.bool d2.neg, .slice A2 (nd d2.n).length c2, .int .i64 d2.e] 30)).alloc (.cells #[.bool d3.neg, .slice A3 (nd d3.n).length c3, .int .i64 d3.e] 30)).alloc (.cells #[.bool d4.neg, .slice A4 (nd d4.n).length c4, .int .i64 d4.e] 30) := ⟨_, rfl⟩
  rw [← hW] at k4
  have KW := Lib.hid k4
  have HWW := Lib.hid hW
  clear k1 k2 k3 hW al ha1 ha2 ha3 ha4 h1 h2 h3 h4
  have hR1 : R 9000 9020 (d3.v * (k : Rat)) := R_mul (a := 9000) (b := 9000) (c := 0) (d := 20) (by rw [hv3]; exact hS) (R_nat (n := k) (b := 20) (by rw [show (20 : Int) = ((20 : Nat) : Int) from rfl, pw_nat]; exact cast_lt.2 (by omega)))
  have hR2 : R 9053 9021 (d3.v * (k : Rat) * pw (-53)) := (R_mul (a := 9000) (b := 9020) (c := 53) (d := 1) hR1 (R_pw (by omega) (by omega)))
  have hR3 : R 9053 9022 (d3.v * (k : Rat) * pw (-53) + d4.v) := R_add hR2 (by rw [hv4]; exact R_mono hL (by omega) (by omega))
  have hR4 : R 9000 9001 (d1.v - d2.v) := by rw [hv1, hv2]; exact R_sub (a := 9000) (b := 9000) hP hQ2
  have hres : decide (cmpQ (ab (d1.v - d2.v)) (d3.v * (k : Rat) * pw (-53) + d4.v) ≤ 0) = decide (ab (P - Q2) ≤ S * (k : Rat) * pw (-53) + L) := by
    rw [hv1, hv2, hv3, hv4]
    exact decide_eq_decide.2 cmpQ_le
  have HR4 := Lib.hid hR4; have HRES := Lib.hid hres
  have HTI := Lib.hid (fun W' (h : Below W.heap.size W W') => times04_any _ d3.v k W' ((k4.call h).val (.tail _ (.head _))).v (by omega) (R_Q hR1 (by omega) (by omega)))
  have HPW := Lib.hid (fun W' => pow04_any (-53) (by omega) (by omega) W')
  have HMU := Lib.hid (fun W' u1 u2 x1 x2 => mul03_any u1 u2 (d3.v * (k : Rat)) (pw (-53)) W' x1 x2 (R_Q hR2 (by omega) (by omega)))
  have HAD := Lib.hid (fun W' u1 (h : Below W.heap.size W W') x1 => add03_any u1 _ (d3.v * (k : Rat) * pw (-53)) d4.v W' x1 ((k4.call h).val (.head _)).v (R_Q hR3 (by omega) (by omega)))
  have HKEEP := Lib.hid (fun Y (h : Below W.heap.size W Y) => And.intro ((KW.out.call h).box (.head _)).c3 (And.intro ((KW.out.call h).box (.tail _ (.head _))).c3 h))
  unfold dyV at HTI HAD ⊢
  clear k4 hR1 hR2 hR3 hR4 hres hP hQ2 hS hL hv1 hv2 hv3 hv4
  generalize d3.v * (k : Rat) = P1 at *
  generalize P1 * pw (-53) = P2 at *
  go_enter Try.func31, Try.ntmps31
  go_wp2_with fail
  rw [← HWW.out]
  clear HWW
  go_cut [11] (fun s11 wx => ∃ (g : Nat) (d8 : Dy) (A8 : Option Addr) (c8 : Nat), s11 = .pointer (some ⟨g, 0, none⟩) ∧ KeepD w wx [(g, d8, A8, c8), (w.heap.size + 1 + 1 + 1, d4, A4, c4), (w.heap.size + 1 + 1, d3, A3, c3), (w.heap.size + 1, d2, A2, c2), (w.heap.size, d1, A1, c1)] [] [] ∧ d8.v = P2 + d4.v)
  case first =>
    go_region_held3 (fun Y => ((Y.cell? ⟨w.heap.size + 1 + 1 + 1, 0, none⟩ = some (.bool d4.neg) ∧ Y.cell? ⟨w.heap.size + 1 + 1 + 1, 1, none⟩ = some (.slice A4 (nd d4.n).length c4) ∧ Y.cell? ⟨w.heap.size + 1 + 1 + 1, 2, none⟩ = some (.int .i64 d4.e)) ∧ (Y.cell? ⟨w.heap.size + 1 + 1, 0, none⟩ = some (.bool d3.neg) ∧ Y.cell? ⟨w.heap.size + 1 + 1, 1, none⟩ = some (.slice A3 (nd d3.n).length c3) ∧ Y.cell? ⟨w.heap.size + 1 + 1, 2, none⟩ = some (.int .i64 d3.e)) ∧ Below W.heap.size W Y))
      ((refine HKEEP.out _ ?_; first | (refine Below.setCell (Below.setCell (Below.setCell hbW (by exact bz.ge) _) (by exact bz.ge) _) (by exact bz.ge) _) | (repeat (first | assumption | exact Below.refl _ _ | refine Below.allocs ?_ _ | refine Below.drews ?_ | refine Below.chain ?_ (by assumption)))))
      (first
        | (go_at_call 16; (refine (HTI.out _ (by repeat (first | assumption | exact Below.refl _ _ | refine Below.allocs ?_ _ | refine Below.drews ?_ | refine Below.chain ?_ (by assumption)))).mono ?_); rintro e w5 ⟨⟨v, rfl, hv⟩, hb5⟩; obtain ⟨d5, A5, c5, rfl, ha5, hv5⟩ := hv.a; unfold dyV at *; (first | (have bz := ownZ_new (W := W) (by repeat (first | assumption | exact Below.refl _ _ | refine Below.allocs ?_ _ | refine Below.drews ?_ | refine Below.chain ?_ (by assumption))) hb5) | (have bz := ownZ_newd (W := W) (by repeat (first | assumption | exact Below.refl _ _ | refine Below.allocs ?_ _ | refine Below.drews ?_ | refine Below.chain ?_ (by assumption))) hb5) | (have bz := bz.call hb5) | skip); (try (obtain ⟨x0, x1, x2⟩ := bz.bk.c3; obtain ⟨z0, z1, z2⟩ := bz.bk.f3)))
        | (go_at_call 17; (refine (HPW.out _).mono ?_); rintro e w6 ⟨⟨v, rfl, hpv⟩, hb6⟩; obtain ⟨d6, A6, c6, rfl, ha6, hv6⟩ := hpv.a; unfold dyV at *; (first | (have bz := ownZ_new (W := W) (by repeat (first | assumption | exact Below.refl _ _ | refine Below.allocs ?_ _ | refine Below.drews ?_ | refine Below.chain ?_ (by assumption))) hb6) | (have bz := ownZ_newd (W := W) (by repeat (first | assumption | exact Below.refl _ _ | refine Below.allocs ?_ _ | refine Below.drews ?_ | refine Below.chain ?_ (by assumption))) hb6) | (have bz := bz.call hb6) | skip); (try (obtain ⟨x0, x1, x2⟩ := bz.bk.c3; obtain ⟨z0, z1, z2⟩ := bz.bk.f3)))
        | (go_at_call 25; (with_reducible refine (HMU.out _ _ _ (hv.below (by repeat (first | assumption | exact Below.refl _ _ | refine Below.allocs ?_ _ | refine Below.drews ?_ | refine Below.chain ?_ (by assumption)))) (hpv.below (by repeat (first | assumption | exact Below.refl _ _ | refine Below.allocs ?_ _ | refine Below.drews ?_ | refine Below.chain ?_ (by assumption))))).mono ?_); rintro e w7 ⟨⟨v, rfl, hmv⟩, hb7⟩; obtain ⟨d7, A7, c7, rfl, ha7, hv7⟩ := hmv.a; unfold dyV at *; (first | (have bz := ownZ_new (W := W) (by repeat (first | assumption | exact Below.refl _ _ | refine Below.allocs ?_ _ | refine Below.drews ?_ | refine Below.chain ?_ (by assumption))) hb7) | (have bz := ownZ_newd (W := W) (by repeat (first | assumption | exact Below.refl _ _ | refine Below.allocs ?_ _ | refine Below.drews ?_ | refine Below.chain ?_ (by assumption))) hb7) | (have bz := bz.call hb7) | skip); (try (obtain ⟨x0, x1, x2⟩ := bz.bk.c3; obtain ⟨z0, z1, z2⟩ := bz.bk.f3)))
        | (go_at_call 36; (with_reducible refine (HAD.out _ _ (by repeat (first | assumption | exact Below.refl _ _ | refine Below.allocs ?_ _ | refine Below.drews ?_ | refine Below.chain ?_ (by assumption))) (hmv.below (by repeat (first | assumption | exact Below.refl _ _ | refine Below.allocs ?_ _ | refine Below.drews ?_ | refine Below.chain ?_ (by assumption))))).mono ?_); rintro e w8 ⟨⟨v, rfl, hav⟩, hb8⟩; obtain ⟨d8, A8, c8, rfl, ha8, hv8⟩ := hav.a; unfold dyV at *; (first | (have bz := ownZ_new (W := W) (by repeat (first | assumption | exact Below.refl _ _ | refine Below.allocs ?_ _ | refine Below.drews ?_ | refine Below.chain ?_ (by assumption))) hb8) | (have bz := ownZ_newd (W := W) (by repeat (first | assumption | exact Below.refl _ _ | refine Below.allocs ?_ _ | refine Below.drews ?_ | refine Below.chain ?_ (by assumption))) hb8) | (have bz := bz.call hb8) | skip); (try (obtain ⟨x0, x1, x2⟩ := bz.bk.c3; obtain ⟨z0, z1, z2⟩ := bz.bk.f3)); have hbW : Below W.heap.size W w8 := (Below.chain (by repeat (first | assumption | exact Below.refl _ _ | refine Below.allocs ?_ _ | refine Below.drews ?_ | refine Below.chain ?_ (by assumption))) hb8)))
    all_goals
      have HBW := Lib.hid hbW; have HA8 := Lib.hid ha8; have HV8 := Lib.hid hv8
      go_wp2_with fail
      go_meet
      first
      | exact ⟨_, d8, A8, c8, rfl, (KW.out.call HBW.out).push HA8.out, HV8.out⟩
      | exact ⟨_, d8, A8, c8, rfl, KW.out.fill HBW.out bz HA8.out, HV8.out⟩
  case rest =>
    obtain ⟨g8, d8, A8, c8, rfl, hK, hv8⟩ := hcut
    have KE := Lib.hid hK; have HV8 := Lib.hid hv8
    clear hK hv8 HKEEP KW HTI HPW HMU HAD
    have HKE := Lib.hid (fun Y (h : Below wc.heap.size wc Y) => And.intro ((KE.out.call h).box (.head _)).c3 (And.intro ((KE.out.call h).box (.tail _ (.tail _ (.tail _ (.head _))))).c3 (And.intro ((KE.out.call h).box (.tail _ (.tail _ (.tail _ (.tail _ (.head _)))))).c3 h)))
    have HSU := Lib.hid (fun Y (h : Below wc.heap.size wc Y) => sub03_any _ _ _ _ Y ((KE.out.call h).val (.tail _ (.tail _ (.tail _ (.tail _ (.head _)))))).v ((KE.out.call h).val (.tail _ (.tail _ (.tail _ (.head _))))).v (R_Q HR4.out (by omega) (by omega)))
    have HABS := Lib.hid (fun Y u h => abs03_any u (d1.v - d2.v) Y h)
    have HCM := Lib.hid (fun Y u (h : Below wc.heap.size wc Y) h2 => cmp03_any u _ (ab (d1.v - d2.v)) _ Y h2 ((KE.out.call h).val (.head _)).v)
    rw [HV8.out] at HCM
    generalize cmpQ (ab (d1.v - d2.v)) (P2 + d4.v) = cq at *
    unfold dyV at HSU HCM
    clear HV8 HR4
    go_wp2_with fail
    go_region_held3 (fun Y => ((Y.cell? ⟨g8, 0, none⟩ = some (.bool d8.neg) ∧ Y.cell? ⟨g8, 1, none⟩ = some (.slice A8 (nd d8.n).length c8) ∧ Y.cell? ⟨g8, 2, none⟩ = some (.int .i64 d8.e)) ∧ (Y.cell? ⟨w.heap.size + 1, 0, none⟩ = some (.bool d2.neg) ∧ Y.cell? ⟨w.heap.size + 1, 1, none⟩ = some (.slice A2 (nd d2.n).length c2) ∧ Y.cell? ⟨w.heap.size + 1, 2, none⟩ = some (.int .i64 d2.e)) ∧ (Y.cell? ⟨w.heap.size, 0, none⟩ = some (.bool d1.neg) ∧ Y.cell? ⟨w.heap.size, 1, none⟩ = some (.slice A1 (nd d1.n).length c1) ∧ Y.cell? ⟨w.heap.size, 2, none⟩ = some (.int .i64 d1.e)) ∧ Below wc.heap.size wc Y))
      ((refine HKE.out _ ?_; (repeat (first | assumption | exact Below.refl _ _ | refine Below.allocs ?_ _ | refine Below.drews ?_ | refine Below.chain ?_ (by assumption)))))
      (first
        | (go_at_call 28; (refine (HSU.out _ (by repeat (first | assumption | exact Below.refl _ _ | refine Below.allocs ?_ _ | refine Below.drews ?_ | refine Below.chain ?_ (by assumption)))).mono ?_); rintro e y5 ⟨⟨v, rfl, hv⟩, hb5⟩; obtain ⟨d5, A5, c5, rfl, ha5, hv5⟩ := hv.a; unfold dyV at *)
        | (go_at_call 27; (with_reducible refine (HABS.out _ _ (hv.below (by repeat (first | assumption | exact Below.refl _ _ | refine Below.allocs ?_ _ | refine Below.drews ?_ | refine Below.chain ?_ (by assumption))))).mono ?_); rintro e y6 ⟨⟨v, rfl, hva⟩, hb6⟩; obtain ⟨d6, A6, c6, rfl, ha6, hv6⟩ := hva.a; unfold dyV at *)
        | (go_at_call 26; (with_reducible refine (HCM.out _ _ (by repeat (first | assumption | exact Below.refl _ _ | refine Below.allocs ?_ _ | refine Below.drews ?_ | refine Below.chain ?_ (by assumption))) (hva.below (by repeat (first | assumption | exact Below.refl _ _ | refine Below.allocs ?_ _ | refine Below.drews ?_ | refine Below.chain ?_ (by assumption))))).mono ?_); rintro e y7 ⟨rfl, hb7⟩; have hbE : Below wc.heap.size wc y7 := (Below.chain (by repeat (first | assumption | exact Below.refl _ _ | refine Below.allocs ?_ _ | refine Below.drews ?_ | refine Below.chain ?_ (by assumption))) hb7)))
    all_goals
      have HBE := Lib.hid (KE.out.call hbE).below
      go_wp2
      go_ret
      exact ⟨by rw [← HRES.out]; rfl, HBE.out⟩
end Go.Proofs.Ytfnhcgpdlhndhaa
