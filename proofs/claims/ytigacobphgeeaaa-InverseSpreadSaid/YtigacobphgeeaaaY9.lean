/- Plain texts, laid as one. -/
import Derived.Test.YtigacobphgeeaaaN9
import Derived.Test.YtigacobphgeeaaaT9
import Derived.Test.YtigacobphgeeaaaB9
import Derived.Test.YtigacobphgeeaaaF9
/- Plain: dyads. -/
set_option linter.unusedVariables false
namespace Lev
structure Dy where
  neg : Bool
  n : Nat
  e : Int
def Dy.v (d : Dy) : Rat := sv d.neg ((d.n : Rat) * pw d.e)
/-- In the form that Norm leaves. -/
def Dy.ok (d : Dy) : Prop := (d.n = 0 ∧ d.neg = false ∧ d.e = 0) ∨ (d.n % 2 = 1 ∧ -20000 ≤ d.e ∧ d.e ≤ 20000 ∧ (nd d.n).length ≤ 1300)
def Dy.zero : Dy := ⟨false, 0, 0⟩
theorem Dy.zero_ok : Dy.zero.ok := .inl ⟨rfl, rfl, rfl⟩
theorem Dy.zero_v : Dy.zero.v = 0 := by show sv false ((0 : Nat) * pw 0 : Rat) = 0; rw [sv_false]; simp
/-- A number that dyads can tell. -/
def Q (x : Rat) : Prop := (∃ k : Int, x = (k : Rat) * pw (-20000)) ∧ ab x < pw 20000
theorem pw_lt_iff {a b : Int} : pw a < pw b ↔ a < b := by
  constructor
  · intro h
    rcases Int.lt_or_le a b with h1 | h1
    · exact h1
    · have h2 : pw b ≤ pw a := by
        obtain ⟨m, hm⟩ : ∃ m : Nat, a = b + m := ⟨(a - b).toNat, by omega⟩
        rw [hm, pw_add, pw_nat]
        have h3 : (1 : Rat) ≤ ((2 ^ m : Nat) : Rat) := by
          have := cast_le.2 (Nat.one_le_two_pow (n := m)); exact this
        have h4 := Rat.mul_le_mul_of_nonneg_left h3 (Rat.le_of_lt (pw_pos b))
        rwa [Rat.mul_one] at h4
      exact absurd h (Rat.not_lt.2 h2)
  · intro h
    obtain ⟨m, hm⟩ : ∃ m : Nat, b = a + 1 + m := ⟨(b - (a + 1)).toNat, by omega⟩
    rw [hm, pw_add, pw_add, pw_nat]
    have h3 : (1 : Rat) ≤ ((2 ^ m : Nat) : Rat) := by
      have := cast_le.2 (Nat.one_le_two_pow (n := m)); exact this
    have h5 : pw 1 = 2 := by decide +kernel
    rw [h5]
    have h6 : (0 : Rat) ≤ pw a * 2 := Rat.le_of_lt (Rat.mul_pos (pw_pos a) (by decide))
    have h4 := Rat.mul_le_mul_of_nonneg_left h3 h6
    rw [Rat.mul_one] at h4
    have := pw_pos a
    grind
theorem ab_sv_nat (s : Bool) (n : Nat) (e : Int) : ab (sv s ((n : Rat) * pw e)) = (n : Rat) * pw e := ab_sv _ _ (Rat.mul_nonneg Rat.natCast_nonneg (Rat.le_of_lt (pw_pos _)))
/-- An odd number and a power that tell a number of Q are in the form. -/
theorem ok_of_Q {neg : Bool} {n : Nat} {e : Int} (hn : n % 2 = 1) (hq : Q (sv neg ((n : Rat) * pw e))) : (⟨neg, n, e⟩ : Dy).ok := by
  obtain ⟨⟨k, hk⟩, hab⟩ := hq
  rw [ab_sv_nat] at hab
  have hnpos : (1 : Rat) ≤ (n : Rat) := by have : 1 ≤ n := by omega
                                           have := cast_le.2 this; exact this
  have hup : e < 20000 := by
    have h1 : pw e ≤ (n : Rat) * pw e := by
      have := Rat.mul_le_mul_of_nonneg_right hnpos (Rat.le_of_lt (pw_pos e)); rwa [Rat.one_mul] at this
    exact pw_lt_iff.1 (by grind)
  have hlo : -20000 ≤ e := by
    rcases Int.lt_or_le e (-20000) with h1 | h1
    · exfalso
      obtain ⟨m, hm⟩ : ∃ m : Nat, -20000 = e + 1 + m := ⟨(-20000 - (e + 1)).toNat, by omega⟩
      have h2 : pw (-20000) = pw e * ((2 * 2 ^ m : Nat) : Rat) := by
        rw [hm, pw_add, pw_add, pw_nat, Rat.natCast_mul, show pw 1 = ((2 : Nat) : Rat) from by decide +kernel, Rat.mul_assoc]
      have h3 : sv neg ((n : Rat) * pw e) = sv neg (n : Rat) * pw e := by rw [sv_scale]
      rw [h2, h3] at hk
      have h4 : sv neg (n : Rat) = (k : Rat) * ((2 * 2 ^ m : Nat) : Rat) := by
        have hp := pw_pos e
        have h5 : sv neg (n : Rat) * pw e = ((k : Rat) * ((2 * 2 ^ m : Nat) : Rat)) * pw e := by rw [hk]; grind
        have h6 := congrArg (fun x => x * (pw e)⁻¹) h5
        simpa only [Rat.mul_assoc, Rat.mul_inv_cancel _ (pw_ne e), Rat.mul_one] using h6
      have h6 : ∃ j : Int, (n : Int) = 2 * j := by
        have h7 : ((k * ((2 * 2 ^ m : Nat) : Int) : Int) : Rat) = (k : Rat) * ((2 * 2 ^ m : Nat) : Rat) := by
          rw [Rat.intCast_mul]; rfl
        rw [← h7] at h4
        cases neg
        · have h8 : ((n : Int) : Rat) = ((k * ((2 * 2 ^ m : Nat) : Int) : Int) : Rat) := h4
          have h9 := Rat.intCast_inj.1 h8
          exact ⟨k * ((2 ^ m : Nat) : Int), by rw [h9, Int.natCast_mul]; grind⟩
        · have h8 : ((-(n : Int) : Int) : Rat) = ((k * ((2 * 2 ^ m : Nat) : Int) : Int) : Rat) := by rw [Rat.intCast_neg]; exact h4
          have h9 := Rat.intCast_inj.1 h8
          exact ⟨-(k * ((2 ^ m : Nat) : Int)), by rw [Int.natCast_mul] at h9; grind⟩
      obtain ⟨j, hj⟩ := h6
      omega
    · exact h1
  refine .inr ⟨hn, hlo, by show e ≤ 20000; omega, ?_⟩
  show (nd n).length ≤ 1300
  have h1 : (n : Rat) < pw 40000 := by
    have h2 : pw (20000 - e) * pw e = pw 20000 := by rw [← pw_add]; congr 1; omega
    have h3 : (n : Rat) * pw e < pw (20000 - e) * pw e := by rw [h2]; exact hab
    have h4 : (n : Rat) < pw (20000 - e) := Rat.lt_of_mul_lt_mul_right h3 (Rat.le_of_lt (pw_pos e))
    have h5 : pw (20000 - e) ≤ pw 40000 := by
      rcases Int.lt_or_le (20000 - e) 40000 with h | h
      · exact Rat.le_of_lt (pw_lt_iff.2 h)
      · have : 20000 - e = 40000 := by omega
        rw [this]; exact Rat.le_refl
    grind
  obtain ⟨E, hE⟩ : ∃ E : Nat, E = 1250 := ⟨_, rfl⟩
  have h2 : pw 40000 = ((4294967296 ^ E : Nat) : Rat) := by
    rw [pow32, ← pw_nat]; congr 1; omega
  rw [h2] at h1
  have h3 : n < 4294967296 ^ E := Rat.natCast_lt_natCast.1 h1
  rcases Nat.lt_or_ge 1300 (nd n).length with h4 | h4
  · have h5 := nd_ge (n := n) (by omega)
    have h6 := Nat.pow_le_pow_right (n := 4294967296) (by decide) (show E ≤ (nd n).length - 1 by omega)
    omega
  · exact h4
end Lev

/- Contracts of dyads: Norm. -/
set_option linter.unusedVariables false
namespace Lev
theorem odd_head {m : Nat} : m % 4294967296 % 2 = m % 2 := by omega
theorem nd_head {m : Nat} (h : m ≠ 0) : (nd m)[0]?.getD 0 = m % 4294967296 := by rw [nd_pos h]; rfl
theorem strip_bound {n m k : Nat} (h : n = m * 2 ^ k) (hm : m ≠ 0) (hl : (nd n).length ≤ 30000) : k ≤ 960000 := by
  have h1 := nd_lt n
  have h2 := Nat.pow_le_pow_right (n := 4294967296) (by decide) hl
  rcases Nat.lt_or_ge 960000 k with h3 | h3
  · exfalso
    obtain ⟨E, hE⟩ : ∃ E : Nat, E = 30000 := ⟨_, rfl⟩
    rw [← hE] at h2
    rw [pow32 E] at h2
    have h4 := Nat.pow_le_pow_right (n := 2) (by decide) (show 32 * E ≤ k by omega)
    have h5 : 2 ^ k ≤ m * 2 ^ k := Nat.le_mul_of_pos_left _ (by omega)
    omega
  · exact h3
theorem strip_val {n m k : Nat} {e : Int} (neg : Bool) (h : n = m * 2 ^ k) : sv neg ((m : Rat) * pw (e + k)) = sv neg ((n : Rat) * pw e) := by
  rw [h, Rat.natCast_mul, pw_add, pw_nat]; congr 1; grind
theorem strip_more {n m k j : Nat} (h : n = m * 2 ^ k) (hj : m % 2 ^ j = 0) : n = m / 2 ^ j * 2 ^ (k + j) := by
  have h1 := Nat.div_add_mod m (2 ^ j)
  rw [hj, Nat.add_zero] at h1
  rw [h, Nat.pow_add]
  conv => lhs; rw [← h1]
  simp only [Nat.mul_comm, Nat.mul_left_comm]
end Lev
namespace Go.Proofs.Ytigacobphgeeaaa
open Go.RowKit Go.Shelf Lev

def dyV (d : Dy) (A : Option Addr) (c : Nat) : Value := .agg #[.bool d.neg, .slice A (nd d.n).length c, .int .i64 d.e]
/-- A dyad's value x. -/
def DyV (w : World) (v : Value) (x : Rat) : Prop := ∃ (d : Dy) (A : Option Addr) (c : Nat), v = dyV d A c ∧ d.ok ∧ d.v = x ∧ NatA w A (nd d.n) c ∧ Q x
theorem DyV.below {w w' : World} {v : Value} {x : Rat} (h : DyV w v x) (hb : Below w.heap.size w w') : DyV w' v x := by
  obtain ⟨d, A, c, e, h1, h2, h3, h4⟩ := h
  exact ⟨d, A, c, e, h1, h2, h3.below hb, h4⟩
theorem Q_zero : Q 0 := ⟨⟨0, by simp⟩, by rw [show ab (0 : Rat) = 0 from by decide +kernel]; exact pw_pos _⟩
def zDy : Array Value := #[.bool false, .slice none 0 0, .int .i64 0]
theorem DyV.zero (w : World) : DyV w (.agg zDy) 0 := ⟨Dy.zero, none, 0, by unfold dyV Dy.zero; rw [nd_zero]; rfl, Dy.zero_ok, Dy.zero_v, by unfold Dy.zero; rw [nd_zero]; exact NatA.nil _ _ (by decide), Q_zero⟩

theorem Bk.c3 {w : World} {g : Nat} {t : TypeId} {v0 v1 v2 : Value} (h : Bk w g t #[v0, v1, v2]) : w.cell? ⟨g, 0, none⟩ = some v0 ∧ w.cell? ⟨g, 1, none⟩ = some v1 ∧ w.cell? ⟨g, 2, none⟩ = some v2 := ⟨h.cell 0, h.cell 1, h.cell 2⟩
theorem Bk.f3 {w : World} {g : Nat} {t : TypeId} {v0 v1 v2 : Value} (h : Bk w g t #[v0, v1, v2]) : w.frozen? ⟨g, 0, none⟩ = false ∧ w.frozen? ⟨g, 1, none⟩ = false ∧ w.frozen? ⟨g, 2, none⟩ = false := ⟨h.frozen 0, h.frozen 1, h.frozen 2⟩
def stored3 (w : World) (g : Nat) (v0 v1 v2 : Value) : World := ((w.setCell ⟨g, 0, none⟩ v0).setCell ⟨g, 1, none⟩ v1).setCell ⟨g, 2, none⟩ v2
theorem dy_box {w : World} {g : Nat} {t : TypeId} {u0 u1 u2 : Value} (h : Bk w g t #[u0, u1, u2]) (v0 v1 v2 : Value) :
    Bk (stored3 w g v0 v1 v2) g t #[v0, v1, v2] ∧ (∀ B a, Below B a w → B ≤ g → Below B a (stored3 w g v0 v1 v2)) ∧ (∀ A ds c, NatA w A ds c → (∀ a, A = some a → a.block ≠ g) → NatA (stored3 w g v0 v1 v2) A ds c) := by
  unfold stored3
  refine ⟨by simpa using (((h.set 0 v0).set 1 v1).set 2 v2), fun B a hb hg => ?_, fun A ds c hn hA => ⟨⟨fun hl => ?_, hn.sl.cap, hn.sl.room⟩, hn.dig, hn.len⟩⟩
  · exact (((hb.setCell (p := ⟨g, 0, none⟩) hg v0).setCell (p := ⟨g, 1, none⟩) hg v1).setCell (p := ⟨g, 2, none⟩) hg v2)
  · obtain ⟨b, off, e, hb, hc⟩ := hn.sl.reads hl
    have hne := hA _ e
    refine ⟨b, off, e, by simpa [World.setCell] using hb, fun j hj => ?_⟩
    rw [World.cell?_setCell_other _ ⟨g, 2, none⟩ ⟨b, off + j, none⟩ _ (fun e => hne (by simpa using (congrArg Addr.block e).symm)), World.cell?_setCell_other _ ⟨g, 1, none⟩ ⟨b, off + j, none⟩ _ (fun e => hne (by simpa using (congrArg Addr.block e).symm)), World.cell?_setCell_other _ ⟨g, 0, none⟩ ⟨b, off + j, none⟩ _ (fun e => hne (by simpa using (congrArg Addr.block e).symm))]
    exact hc j hj
theorem NatA.apart {w : World} {A : Option Addr} {ds : List Nat} {c g : Nat} {t : TypeId} {s : Bool} {B : Option Addr} {l cc : Nat} {e : Int} (h : NatA w A ds c) (hl : 0 < ds.length) (hb : Bk w g t #[.bool s, .slice B l cc, .int .i64 e]) : ∀ a, A = some a → a.block ≠ g := fun a ha hg => by
  obtain ⟨b, off, e1, _, hc⟩ := h.cells hl
  rw [e1] at ha
  cases ha
  have hg : b = g := hg
  subst hg
  have h1 := hb.cell (off + 0)
  rw [hc 0 hl] at h1
  rcases off with _ | _ | _ | off <;> simp at h1
theorem NatA.stored {w : World} {A : Option Addr} {ds : List Nat} {c g : Nat} {t : TypeId} {s : Bool} {B : Option Addr} {l cc : Nat} {e : Int} (h : NatA w A ds c) (hb : Bk w g t #[.bool s, .slice B l cc, .int .i64 e]) (v0 v1 v2 : Value) : NatA (stored3 w g v0 v1 v2) A ds c := by
  by_cases hl : 0 < ds.length
  · exact (dy_box hb v0 v1 v2).2.2 _ _ _ h (h.apart hl hb)
  · obtain rfl : ds = [] := List.eq_nil_of_length_eq_zero (by omega)
    exact NatA.nil _ _ h.sl.room
theorem Bk.stored3 {w : World} {q g : Nat} {t : TypeId} {cs : Array Value} (h : Bk w q t cs) (hne : q ≠ g) (v0 v1 v2 : Value) : Bk (stored3 w g v0 v1 v2) q t cs :=
  ((h.other (p := ⟨g, 0, none⟩) hne v0).other (p := ⟨g, 1, none⟩) hne v1).other (p := ⟨g, 2, none⟩) hne v2
/-- A call returns a dyad that lies in a box. -/
theorem ret_dy1 {fn : Func} {R : Ending → World → Prop} {a : Act} {w : World} {i : Tmp} {g : Nat} {v0 v1 v2 : Value} (hres : fn.results = #[.cell i 38]) (hi : a.tmps[i]?.getD undef = .pointer (some ⟨g, 0, none⟩))
    (hb : Bk w g 38 #[v0, v1, v2]) (hd : a.defers = []) (hR : R (.returned (.agg #[v0, v1, v2])) w) : bodyPost Try.prog fn R .ret a w := by
  obtain ⟨s0, s1, s2⟩ := hb.c3
  refine bodyPost_ret ?_ hd hR
  simp [results, hres, go_sem, hi, s0, s1, s2]

set_option maxRecDepth 100000 in
set_option maxHeartbeats 2000000 in
theorem norm_zero (neg : Bool) (e : Int) (ds : List Nat) (A : Option Addr) (c : Nat) (w : World) (h : NatA w A ds c) (hz : vN ds = 0) :
    Calls Try.prog 50 #[.bool neg, .slice A ds.length c, .int .i64 e] w fun e w' => (∃ v, e = .returned v ∧ DyV w' v 0) ∧ Below w.heap.size w w' := by
  have k0 := (KeepV.start w).alloc #[.bool false, .slice none 0 0, .int .i64 0] 38
  have HT := trim_any ds A c _ (h.below k0.below)
  rw [hz] at HT
  have HT := Lib.hid HT
  have K0 := Lib.hid k0
  clear k0 h hz
  go_enter Try.func50, Try.ntmps50
  go_wp2_with fail
  refine HT.out.mono ?_
  rintro e w1 ⟨⟨v, rfl, B, cB, rfl, hv⟩, hb⟩
  rw [nd_zero]
  have k1 := K0.out.call hb
  have K1 := Lib.hid k1
  obtain ⟨c0, c1, c2⟩ := (k1.box (.head _)).c3
  obtain ⟨f0, f1, f2⟩ := (k1.box (.head _)).f3
  clear hb k1 hv
  go_wp2
  refine ret_dy1 (v0 := .bool false) (v1 := .slice none 0 0) (v2 := .int .i64 0) (g := w.heap.size) rfl rfl ((dy_box (K1.out.box (.head _)) _ _ _).1) rfl ?_
  exact ⟨⟨_, rfl, DyV.zero _⟩, (dy_box (K1.out.box (.head _)) _ _ _).2.1 _ _ K1.out.below (Nat.le_refl _)⟩

set_option maxRecDepth 100000 in
set_option maxHeartbeats 4000000 in
theorem norm_pos (neg : Bool) (e : Int) (ds : List Nat) (A : Option Addr) (c : Nat) (w : World) (h : NatA w A ds c) (hn : vN ds ≠ 0) (he : -1000000 ≤ e ∧ e ≤ 1000000) (hl : ds.length ≤ 30000) (x : Rat) (hx : x = sv neg ((vN ds : Rat) * pw e)) (hq : Q x) :
    Calls Try.prog 50 #[.bool neg, .slice A ds.length c, .int .i64 e] w fun e w' => (∃ v, e = .returned v ∧ DyV w' v x) ∧ Below w.heap.size w w' := by
  have k0 := (KeepV.start w).alloc #[.bool false, .slice none 0 0, .int .i64 0] 38
  have HT := Lib.hid (trim_any ds A c _ (h.below k0.below))
  have K0 := Lib.hid k0
  have hnl : (nd (vN ds)).length ≤ 30000 := Nat.le_trans (nd_len_of h.dig) hl
  have HX := Lib.hid hx; have HQ := Lib.hid hq
  clear k0 h hx hq
  generalize vN ds = n at *
  have HN := Lib.hid hn
  have hp := nd_len_pos hn
  have t0 : (((nd n).length : Int) == 0) = false := by rw [beq_eq_false_iff_ne]; omega
  obtain ⟨he1, he2⟩ := he
  clear hn
  go_enter Try.func50, Try.ntmps50
  go_wp2_with fail
  refine HT.out.mono ?_
  rintro e w1 ⟨⟨v, rfl, B, cB, rfl, hv⟩, hb⟩
  have K1 := Lib.hid (K0.out.call hb)
  have HV := Lib.hid hv
  clear hb hv
  go_wp2_with fail
  go_loopw [2, 7] (fun ev tv wr => ∃ (m k : Nat) (B : Option Addr) (cB : Nat), tv = .slice B (nd m).length cB ∧ ev = .int .i64 (e + (k : Int)) ∧ NatA wr B (nd m) cB ∧ m ≠ 0 ∧ n = m * 2 ^ k ∧ (nd m).length ≤ 30000 ∧ Below w1.heap.size w1 wr) (fun ev _ _ => (2000000 - intOf ev).toNat)
  case atStart => exact ⟨n, 0, B, cB, rfl, by simp, HV.out, HN.out, by simp, hnl, Below.refl _ _⟩
  case round =>
    obtain ⟨m, k, B2, c2, rfl, rfl, hm, hm0, hmn, hml, hbel⟩ := hrel
    have hk := strip_bound hmn hm0 hnl
    obtain ⟨b, off, hBB, hbb, hc⟩ := hm.cells (nd_len_pos hm0)
    have hcell := hc 0 (nd_len_pos hm0)
    rw [nd_head hm0, Nat.add_zero] at hcell
    subst hBB
    have hlen0 : (0 : Int) < ((nd m).length : Int) := by have := nd_len_pos hm0; omega
    have HM := Lib.hid hm; have HM0 := Lib.hid hm0; have HMN := Lib.hid hmn; have HBL := Lib.hid hbel
    obtain ⟨d, hd⟩ : ∃ d, d = m % 4294967296 := ⟨_, rfl⟩
    rw [← hd] at hcell
    have hd2 : d < 4294967296 := by omega
    have HD := Lib.hid hd
    have K2 := Lib.hid (K1.out.call hbel)
    clear hc hm hm0 hmn hbel hd
    by_cases hodd : d % 2 = 0
    · have hsh : ∀ j : Nat, (j = 1 ∨ (j = 32 ∧ d = 0)) → m % 2 ^ j = 0 ∧ j ≤ 32 := fun j hj => by
        have := HD.out
        rcases hj with rfl | ⟨rfl, h⟩
        · exact ⟨by rw [Nat.pow_one]; omega, by decide⟩
        · refine ⟨?_, Nat.le_refl _⟩
          rw [show (2 : Nat) ^ 32 = 4294967296 from by decide]; omega
      have hdiv : ∀ j : Nat, m % 2 ^ j = 0 → m / 2 ^ j ≠ 0 := fun j hj h0 => by
        have h1 := Nat.div_add_mod m (2 ^ j)
        rw [hj, h0, Nat.mul_zero] at h1
        exact HM0.out h1.symm
      have HSR := Lib.hid (fun (j : Nat) (hj : j ≤ 100000) => by
        have := shr02_any (nd m) (some ⟨b, off, none⟩) c2 j hj wr HM.out hml
        rwa [vN_nd] at this)
      have HSH := Lib.hid hsh; have HDV := Lib.hid hdiv
      have t1 : ((d : Int) % 2 == 0) = true := by rw [beq_iff_eq]; omega
      clear hsh hdiv hodd
      have hcase : (((d : Int) == 0) = true ∧ m % 2 ^ 32 = 0 ∧ (32 : Nat) = 32) ∨ (((d : Int) == 0) = false ∧ m % 2 ^ 1 = 0 ∧ (1 : Nat) = 1) := by
        cases h : ((d : Int) == 0)
        · exact .inr ⟨rfl, (HSH.out 1 (.inl rfl)).1, rfl⟩
        · have hd0 : d = 0 := by rw [beq_iff_eq] at h; omega
          exact .inl ⟨rfl, (HSH.out 32 (.inr ⟨rfl, hd0⟩)).1, rfl⟩
      have HCA := Lib.hid hcase
      clear hcase
      have FIN : ∀ j : Nat, m % 2 ^ j = 0 → m / 2 ^ j ≠ 0 ∧ n = m / 2 ^ j * 2 ^ (k + j) ∧ (nd (m / 2 ^ j)).length ≤ 30000 := fun j hj =>
        ⟨HDV.out j hj, strip_more HMN.out hj, Nat.le_trans (nd_len_le (Nat.div_le_self _ _)) hml⟩
      have HF := Lib.hid FIN
      clear FIN
      rcases HCA.out with ⟨t2, hj, _⟩ | ⟨t2, hj, _⟩
      · have HJ := Lib.hid hj
        have HC := Lib.hid (HSR.out 32 (by decide))
        obtain ⟨M, hM⟩ : ∃ M, M = m / 2 ^ 32 := ⟨_, rfl⟩
        rw [← hM] at HC
        have HMM := Lib.hid hM
        generalize (cmpN (M * 2 ^ 32) m == 0) = cb at *
        clear hj hM
        go_wp2_with fail
        refine HC.out.mono ?_
        rintro e w2 ⟨⟨v, rfl, B3, c3, rfl, hv⟩, hb⟩
        have HV3 := Lib.hid hv
        have HB3 := Lib.hid (HBL.out.trans (hb.mono HBL.out.size))
        clear hv hb
        go_wp2
        go_roundw
        case rel =>
          obtain ⟨p1, p2, p3⟩ := HF.out 32 HJ.out
          rw [← HMM.out] at p1 p2 p3
          exact ⟨M, k + 32, B3, c3, rfl, by go_num, HV3.out, p1, p2, p3, HB3.out⟩
        case measure => simp [intOf]; omega
      · have HJ := Lib.hid hj
        have HC := Lib.hid (HSR.out 1 (by decide))
        obtain ⟨M, hM⟩ : ∃ M, M = m / 2 ^ 1 := ⟨_, rfl⟩
        rw [← hM] at HC
        have HMM := Lib.hid hM
        generalize (cmpN (M * 2 ^ 1) m == 0) = cb at *
        clear hj hM
        go_wp2_with fail
        refine HC.out.mono ?_
        rintro e w2 ⟨⟨v, rfl, B3, c3, rfl, hv⟩, hb⟩
        have HV3 := Lib.hid hv
        have HB3 := Lib.hid (HBL.out.trans (hb.mono HBL.out.size))
        clear hv hb
        go_wp2
        go_roundw
        case rel =>
          obtain ⟨p1, p2, p3⟩ := HF.out 1 HJ.out
          rw [← HMM.out] at p1 p2 p3
          exact ⟨M, k + 1, B3, c3, rfl, by go_num, HV3.out, p1, p2, p3, HB3.out⟩
        case measure => simp [intOf]; omega
    · have hmo : m % 2 = 1 := by have := HD.out; omega
      have hv0 := strip_val (e := e) neg HMN.out
      have hok : (⟨neg, m, e + (k : Int)⟩ : Dy).ok := ok_of_Q hmo (by rw [hv0, ← HX.out]; exact HQ.out)
      have hb1 : -20000 ≤ e + (k : Int) ∧ e + (k : Int) ≤ 20000 := by
        rcases hok with ⟨h, _⟩ | ⟨_, h1, h2, _⟩
        · exact absurd h HM0.out
        · exact ⟨h1, h2⟩
      obtain ⟨hb2, hb3⟩ := hb1
      have hval : (⟨neg, m, e + (k : Int)⟩ : Dy).v = x := by rw [HX.out]; exact hv0
      have HOK := Lib.hid hok; have HVAL := Lib.hid hval
      have t1 : ((d : Int) % 2 == 0) = false := by rw [beq_eq_false_iff_ne]; omega
      obtain ⟨f0, f1, f2⟩ := (K2.out.box (.head _)).f3
      obtain ⟨c0', c1', c2'⟩ := (K2.out.box (.head _)).c3
      have hbne := HM.out.apart (nd_len_pos HM0.out) (K2.out.box (.head _))
      clear hok hval hv0 hmo hodd
      obtain ⟨E, hE⟩ : ∃ E, E = e + (k : Int) := ⟨_, rfl⟩
      rw [← hE] at hb2 hb3 ⊢
      have HEE := Lib.hid hE
      clear hE
      go_wp2
      refine ret_dy1 (v0 := .bool neg) (v1 := .slice (some ⟨b, off, none⟩) (nd m).length c2) (v2 := .int .i64 E) (g := w.heap.size) rfl rfl ((dy_box (K2.out.box (.head _)) _ _ _).1) rfl ?_
      exact ⟨⟨_, rfl, ⟨neg, m, E⟩, _, _, rfl, by rw [HEE.out]; exact HOK.out, by rw [HEE.out]; exact HVAL.out, (dy_box (K2.out.box (.head _)) _ _ _).2.2 _ _ _ HM.out hbne, HQ.out⟩, (dy_box (K2.out.box (.head _)) _ _ _).2.1 _ _ K2.out.below (Nat.le_refl _)⟩

theorem norm_any (neg : Bool) (e : Int) (ds : List Nat) (A : Option Addr) (c : Nat) (w : World) (h : NatA w A ds c) (he : -1000000 ≤ e ∧ e ≤ 1000000) (hl : ds.length ≤ 30000) (x : Rat) (hx : x = sv neg ((vN ds : Rat) * pw e)) (hq : Q x) :
    Calls Try.prog 50 #[.bool neg, .slice A ds.length c, .int .i64 e] w fun e w' => (∃ v, e = .returned v ∧ DyV w' v x) ∧ Below w.heap.size w w' := by
  by_cases h0 : vN ds = 0
  · have hx0 : x = 0 := by rw [hx, h0]; cases neg <;> simp [sv]
    rw [hx0]
    exact norm_zero neg e ds A c w h h0
  · exact norm_pos neg e ds A c w h h0 he hl x hx hq
end Go.Proofs.Ytigacobphgeeaaa

/- Contracts of dyads: Check, May, From, Abs, Neg. -/
set_option linter.unusedVariables false
namespace Go.Proofs.Ytigacobphgeeaaa
open Go.RowKit Go.Shelf Lev

set_option maxRecDepth 100000 in
set_option maxHeartbeats 2000000 in
theorem check03_any (d : Dy) (A : Option Addr) (c : Nat) (w : World) (h : NatA w A (nd d.n) c) (hok : d.ok) :
    Calls Try.prog 83 #[dyV d A c] w fun e w' => e = .returned (.bool true) ∧ Below w.heap.size w w' := by
  obtain ⟨neg, n, e⟩ := d
  have K0 := Lib.hid (((KeepV.start w).more h.sl).alloc #[.bool neg, .slice A (nd n).length c, .int .i64 e] 38)
  have H := Lib.hid h
  unfold dyV
  rcases hok with ⟨h0, h1, h2⟩ | ⟨h1, h2, h3, h4⟩
  · have h0 : n = 0 := h0
    have h1 : neg = false := h1
    have h2 : e = 0 := h2
    subst h0 h1 h2
    rw [nd_zero] at K0 ⊢
    clear h H
    go_enter Try.func83, Try.ntmps83
    go_wp2
    go_ret
    exact ⟨rfl, K0.out.below⟩
  · have h1 : n % 2 = 1 := h1
    have h2 : -20000 ≤ e := h2
    have h3 : e ≤ 20000 := h3
    have hn0 : n ≠ 0 := by omega
    have hp := nd_len_pos hn0
    have t0 : (((nd n).length : Int) == 0) = false := by rw [beq_eq_false_iff_ne]; omega
    have HC := Lib.hid (fun W h => check02_any n A c W h)
    obtain ⟨b, off, hA, hb, hc⟩ := h.cells hp
    have hcell := hc 0 hp
    rw [nd_head hn0, Nat.add_zero] at hcell
    subst hA
    obtain ⟨u, hu⟩ : ∃ u, u = n % 4294967296 := ⟨_, rfl⟩
    rw [← hu] at hcell
    have hu2 : u < 4294967296 := by omega
    have t1 : ((u : Int) % 2 == 1) = true := by rw [beq_iff_eq]; omega
    have hl := h.len
    have hp2 : (0 : Int) < ((nd n).length : Int) := by omega
    clear h hc hu h1 h4 hn0 hp
    go_enter Try.func83, Try.ntmps83
    go_wp2_with ((go_at_call 95; refine (HC.out _ (H.out.below ((Below.refl _ _).alloc (Nat.le_refl _) _))).mono ?_; rintro e w' ⟨rfl, rfl⟩))
    go_ret
    exact ⟨rfl, K0.out.below⟩

set_option maxRecDepth 100000 in
set_option maxHeartbeats 2000000 in
theorem may03_any (d : Dy) (A : Option Addr) (c : Nat) (w : World) (h : NatA w A (nd d.n) c) (hok : d.ok) :
    Calls Try.prog 52 #[dyV d A c] w fun e w' => e = .returned (dyV d A c) ∧ Below w.heap.size w w' := by
  have k0 := ((KeepV.start w).alloc #[.bool d.neg, .slice A (nd d.n).length c, .int .i64 d.e] 38).alloc #[.bool false, .slice none 0 0, .int .i64 0] 38
  rw [World.size_alloc] at k0
  have HC := check03_any d A c _ (h.below k0.below) hok
  unfold dyV at HC ⊢
  have HC := Lib.hid HC
  have K0 := Lib.hid k0
  clear h hok k0
  generalize (nd d.n).length = l at *
  generalize d.neg = neg at *
  generalize d.e = e at *
  go_enter Try.func52, Try.ntmps52
  go_wp2_with fail
  refine HC.out.mono ?_
  rintro e w1 ⟨rfl, hb⟩
  have k1 := K0.out.call hb
  have K1 := Lib.hid k1
  obtain ⟨a0, a1, a2⟩ := (k1.box (.tail _ (.head _))).c3
  obtain ⟨f0, f1, f2⟩ := (k1.box (.head _)).f3
  obtain ⟨c0, c1, c2⟩ := (k1.box (.head _)).c3
  clear hb k1
  go_wp2
  refine ret_dy1 (v0 := .bool neg) (v1 := .slice A l c) (v2 := .int .i64 _) (g := w.heap.size + 1) rfl rfl ((dy_box (K1.out.box (.head _)) _ _ _).1) rfl ?_
  exact ⟨rfl, (dy_box (K1.out.box (.head _)) _ _ _).2.1 _ _ K1.out.below (Nat.le_succ _)⟩

theorem ab_ab (x : Rat) : ab (ab x) = ab x := by
  unfold ab
  repeat' split
  all_goals grind
theorem ab_neg (x : Rat) : ab (-x) = ab x := by
  unfold ab
  repeat' split
  all_goals grind
theorem Q_ab {x : Rat} (h : Q x) : Q (ab x) := by
  obtain ⟨⟨k, hk⟩, h2⟩ := h
  refine ⟨?_, by rwa [ab_ab]⟩
  unfold ab
  split
  · exact ⟨-k, by rw [hk, Rat.intCast_neg]; grind⟩
  · exact ⟨k, hk⟩
theorem Q_neg {x : Rat} (h : Q x) : Q (-x) := by
  obtain ⟨⟨k, hk⟩, h2⟩ := h
  refine ⟨⟨-k, by rw [hk, Rat.intCast_neg]; grind⟩, by rwa [ab_neg]⟩

set_option maxRecDepth 100000 in
set_option maxHeartbeats 2000000 in
theorem abs03_any (v : Value) (x : Rat) (w : World) (h : DyV w v x) :
    Calls Try.prog 27 #[v] w fun e w' => (∃ v', e = .returned v' ∧ DyV w' v' (ab x)) ∧ Below w.heap.size w w' := by
  obtain ⟨d, A, c, rfl, hok, hval, hn, hq⟩ := h
  have k0 := ((KeepV.start w).alloc #[.bool d.neg, .slice A (nd d.n).length c, .int .i64 d.e] 38).alloc #[.bool false, .slice none 0 0, .int .i64 0] 38
  rw [World.size_alloc] at k0
  have HM := may03_any d A c _ (hn.below k0.below) hok
  have HN := fun W hW => norm_any false d.e (nd d.n) A c W hW (by rcases hok with ⟨_, _, h⟩ | ⟨_, h, h2, _⟩ <;> omega) (by rcases hok with ⟨h, _, _⟩ | ⟨_, _, _, h⟩; (· rw [h, nd_zero]; decide); (· omega)) (ab x) (by rw [vN_nd, ← hval]; exact (ab_sv_nat _ _ _)) (Q_ab hq)
  have HNA := Lib.hid hn
  unfold dyV at HM ⊢
  have HM := Lib.hid HM; have HN := Lib.hid HN
  have K0 := Lib.hid k0
  clear hn hok k0 hval hq
  generalize hnd : nd d.n = ds at *
  generalize d.neg = neg at *
  generalize d.e = e at *
  clear hnd
  go_enter Try.func27, Try.ntmps27
  go_wp2_with fail
  refine HM.out.mono ?_
  rintro e w1 ⟨rfl, hb⟩
  have k1 := K0.out.call hb
  have K1 := Lib.hid k1
  have HN1 := Lib.hid (HNA.out.below (K0.out.call hb).below)
  obtain ⟨a0, a1, a2⟩ := (k1.box (.tail _ (.head _))).c3
  obtain ⟨f0, f1, f2⟩ := (k1.box (.tail _ (.head _))).f3
  clear hb k1
  go_wp2_with fail
  have b0 : Bk w1 w.heap.size 38 #[.bool neg, .slice A ds.length c, .int .i64 e] := K1.out.box (.tail _ (.head _))
  have b1 : Bk w1 (w.heap.size + 1) 38 #[.bool false, .slice none 0 0, .int .i64 0] := K1.out.box (.head _)
  have q0 := HN1.out.stored b0 (.bool neg) (.slice A ds.length c) (.int .i64 e)
  have q1 := b1.stored3 (g := w.heap.size) (by omega) (.bool neg) (.slice A ds.length c) (.int .i64 e)
  have q2 := (dy_box b0 (.bool neg) (.slice A ds.length c) (.int .i64 e)).2.1 _ _ K1.out.below (Nat.le_refl _)
  refine (HN.out (stored3 w1 w.heap.size (.bool neg) (.slice A ds.length c) (.int .i64 e)) q0).mono ?_
  rintro e2 w2 ⟨⟨v, rfl, d2, A2, c2, rfl, hok2, hval2, hn2, hq2⟩, hb2⟩
  have r1 := q1.below hb2 q1.lt
  have HR := Lib.hid r1
  have HB := Lib.hid (Below.chain q2 hb2)
  have HN2 := Lib.hid hn2; have HOK2 := Lib.hid hok2; have HVAL2 := Lib.hid hval2; have HQ2 := Lib.hid hq2
  obtain ⟨g0, g1, g2⟩ := r1.f3
  obtain ⟨c0, c1, c2'⟩ := r1.c3
  unfold dyV
  clear b0 b1 q0 q1 q2 hb2 r1 hok2 hval2 hn2 hq2 a0 a1 a2 f0 f1 f2
  go_wp2
  refine ret_dy1 (v0 := .bool d2.neg) (v1 := .slice A2 (nd d2.n).length c2) (v2 := .int .i64 d2.e) (g := w.heap.size + 1) rfl rfl ((dy_box HR.out _ _ _).1) rfl ?_
  exact ⟨⟨_, rfl, d2, A2, c2, rfl, HOK2.out, HVAL2.out, HN2.out.stored HR.out _ _ _, HQ2.out⟩, (dy_box HR.out _ _ _).2.1 _ _ HB.out (Nat.le_succ _)⟩
set_option maxRecDepth 100000 in
set_option maxHeartbeats 2000000 in
theorem neg03_any (v : Value) (x : Rat) (w : World) (h : DyV w v x) :
    Calls Try.prog 56 #[v] w fun e w' => (∃ v', e = .returned v' ∧ DyV w' v' (-x)) ∧ Below w.heap.size w w' := by
  obtain ⟨d, A, c, rfl, hok, hval, hn, hq⟩ := h
  have k0 := ((KeepV.start w).alloc #[.bool d.neg, .slice A (nd d.n).length c, .int .i64 d.e] 38).alloc #[.bool false, .slice none 0 0, .int .i64 0] 38
  rw [World.size_alloc] at k0
  have HM := may03_any d A c _ (hn.below k0.below) hok
  have HN := fun W hW => norm_any (!d.neg) d.e (nd d.n) A c W hW (by rcases hok with ⟨_, _, h⟩ | ⟨_, h, h2, _⟩ <;> omega) (by rcases hok with ⟨h, _, _⟩ | ⟨_, _, _, h⟩; (· rw [h, nd_zero]; decide); (· omega)) (-x) (by rw [vN_nd, ← hval, sv_not]; rfl) (Q_neg hq)
  have HNA := Lib.hid hn
  unfold dyV at HM ⊢
  have HM := Lib.hid HM; have HN := Lib.hid HN
  have K0 := Lib.hid k0
  clear hn hok k0 hval hq
  generalize hnd : nd d.n = ds at *
  generalize d.neg = neg at *
  generalize d.e = e at *
  clear hnd
  go_enter Try.func56, Try.ntmps56
  go_wp2_with fail
  refine HM.out.mono ?_
  rintro e w1 ⟨rfl, hb⟩
  have k1 := K0.out.call hb
  have K1 := Lib.hid k1
  have HN1 := Lib.hid (HNA.out.below (K0.out.call hb).below)
  obtain ⟨a0, a1, a2⟩ := (k1.box (.tail _ (.head _))).c3
  obtain ⟨f0, f1, f2⟩ := (k1.box (.tail _ (.head _))).f3
  clear hb k1
  go_wp2_with fail
  have b0 : Bk w1 w.heap.size 38 #[.bool neg, .slice A ds.length c, .int .i64 e] := K1.out.box (.tail _ (.head _))
  have b1 : Bk w1 (w.heap.size + 1) 38 #[.bool false, .slice none 0 0, .int .i64 0] := K1.out.box (.head _)
  have q0 := HN1.out.stored b0 (.bool neg) (.slice A ds.length c) (.int .i64 e)
  have q1 := b1.stored3 (g := w.heap.size) (by omega) (.bool neg) (.slice A ds.length c) (.int .i64 e)
  have q2 := (dy_box b0 (.bool neg) (.slice A ds.length c) (.int .i64 e)).2.1 _ _ K1.out.below (Nat.le_refl _)
  refine (HN.out (stored3 w1 w.heap.size (.bool neg) (.slice A ds.length c) (.int .i64 e)) q0).mono ?_
  rintro e2 w2 ⟨⟨v, rfl, d2, A2, c2, rfl, hok2, hval2, hn2, hq2⟩, hb2⟩
  have r1 := q1.below hb2 q1.lt
  have HR := Lib.hid r1
  have HB := Lib.hid (Below.chain q2 hb2)
  have HN2 := Lib.hid hn2; have HOK2 := Lib.hid hok2; have HVAL2 := Lib.hid hval2; have HQ2 := Lib.hid hq2
  obtain ⟨g0, g1, g2⟩ := r1.f3
  obtain ⟨c0, c1, c2'⟩ := r1.c3
  unfold dyV
  clear b0 b1 q0 q1 q2 hb2 r1 hok2 hval2 hn2 hq2 a0 a1 a2 f0 f1 f2
  go_wp2
  refine ret_dy1 (v0 := .bool d2.neg) (v1 := .slice A2 (nd d2.n).length c2) (v2 := .int .i64 d2.e) (g := w.heap.size + 1) rfl rfl ((dy_box HR.out _ _ _).1) rfl ?_
  exact ⟨⟨_, rfl, d2, A2, c2, rfl, HOK2.out, HVAL2.out, HN2.out.stored HR.out _ _ _, HQ2.out⟩, (dy_box HR.out _ _ _).2.1 _ _ HB.out (Nat.le_succ _)⟩
end Go.Proofs.Ytigacobphgeeaaa

/- Contracts of dyads: From. -/
set_option linter.unusedVariables false
namespace Lev
theorem Q_fv {b : Nat} (h : fin b) : Q (fv b) := by
  refine ⟨?_, ?_⟩
  · obtain ⟨E, hE⟩ : ∃ E : Nat, (E : Int) = 18926 := ⟨18926, rfl⟩
    have h1 : pw (-1074) = ((2 ^ E : Nat) : Rat) * pw (-20000) := by rw [← pw_nat, ← pw_add]; congr 1; omega
    unfold fv
    rw [h1]
    cases sg b
    · exact ⟨((rm (rg b) * 2 ^ E : Nat) : Int), by rw [sv_false, ← Rat.mul_assoc, ← Rat.natCast_mul]; rfl⟩
    · refine ⟨-((rm (rg b) * 2 ^ E : Nat) : Int), ?_⟩
      rw [sv_true, ← Rat.mul_assoc, ← Rat.natCast_mul, Rat.intCast_neg]
      have : ((((rm (rg b) * 2 ^ E : Nat) : Int)) : Rat) = ((rm (rg b) * 2 ^ E : Nat) : Rat) := rfl
      rw [this]; grind
  · rw [ab_fv]
    have h1 : (rm (rg b) : Rat) * pw (-1074) ≤ pw 1024 := by
      rw [← rm_inf]
      exact Rat.mul_le_mul_of_nonneg_right (cast_le.2 (rm_mono (Nat.le_of_lt h))) (Rat.le_of_lt (pw_pos _))
    have h2 : pw 1024 < pw 20000 := pw_lt_iff.2 (by decide)
    grind
theorem nd_max : (nd 18446744073709551615).length ≤ 30000 := by
  rw [nd_pos (n := 18446744073709551615) (by decide), show 18446744073709551615 / 4294967296 = 4294967295 from by decide, nd_pos (n := 4294967295) (by decide), show 4294967295 / 4294967296 = 0 from by decide, nd_zero]
  show 2 ≤ 30000
  decide
theorem fv_sm (b : Nat) : fv b = sv (sg b) ((mantS b : Rat) * pw (expS b)) := by unfold fv; rw [mantS_val]
end Lev
namespace Go.Proofs.Ytigacobphgeeaaa
open Go.RowKit Go.Shelf Lev

theorem ret_dy2 {fn : Func} {R : Ending → World → Prop} {a : Act} {w : World} {i k : Tmp} {g : Nat} {v0 v1 v2 x : Value} (hres : fn.results = #[.cell i 38, .tmp k]) (hi : a.tmps[i]?.getD undef = .pointer (some ⟨g, 0, none⟩))
    (hk : a.tmps[k]?.getD undef = x) (hb : Bk w g 38 #[v0, v1, v2]) (hd : a.defers = []) (hR : R (.returned (.tuple #[.agg #[v0, v1, v2], x])) w) : bodyPost Try.prog fn R .ret a w := by
  obtain ⟨s0, s1, s2⟩ := hb.c3
  refine bodyPost_ret ?_ hd hR
  simp [results, hres, go_sem, hi, hk, s0, s1, s2]

set_option maxRecDepth 100000 in
set_option maxHeartbeats 2000000 in
theorem from03_bad (b : Nat) (hb : b < 18446744073709551616) (hf : ¬ fin b) (w : World) :
    Calls Try.prog 54 #[.float .f64 b] w fun e w' => (∃ v', e = .returned (.tuple #[v', .bool false]) ∧ DyV w' v' 0) ∧ Below w.heap.size w w' := by
  have hsp := fun W => rsplit_any b hb W
  have K0 := Lib.hid ((KeepV.start w).alloc #[.bool false, .slice none 0 0, .int .i64 0] 38)
  rcases kind_cases b with h | ⟨h, h2, _⟩ | h | h
  · exact absurd (kindS_le.1 (by omega)) hf
  · exact absurd h2 hf
  · rw [splitV_2 h] at hsp
    have HSP := Lib.hid hsp
    obtain ⟨c0, c1, c2⟩ := (K0.out.box (.head _)).c3
    obtain ⟨f0, f1, f2⟩ := (K0.out.box (.head _)).f3
    clear hsp h hf
    go_enter Try.func54, Try.ntmps54
    go_wp2_with ((go_at_call 42; refine (HSP.out _).mono ?_; rintro e w' ⟨rfl, rfl⟩))
    refine ret_dy2 (v0 := .bool false) (v1 := .slice none 0 0) (v2 := .int .i64 0) (g := w.heap.size) rfl rfl rfl (K0.out.box (.head _)) rfl ?_
    exact ⟨⟨_, rfl, DyV.zero _⟩, K0.out.below⟩
  · rw [splitV_3 h] at hsp
    have HSP := Lib.hid hsp
    obtain ⟨c0, c1, c2⟩ := (K0.out.box (.head _)).c3
    obtain ⟨f0, f1, f2⟩ := (K0.out.box (.head _)).f3
    clear hsp h hf
    go_enter Try.func54, Try.ntmps54
    go_wp2_with ((go_at_call 42; refine (HSP.out _).mono ?_; rintro e w' ⟨rfl, rfl⟩))
    refine ret_dy2 (v0 := .bool false) (v1 := .slice none 0 0) (v2 := .int .i64 0) (g := w.heap.size) rfl rfl rfl (K0.out.box (.head _)) rfl ?_
    exact ⟨⟨_, rfl, DyV.zero _⟩, K0.out.below⟩

set_option maxRecDepth 100000 in
set_option maxHeartbeats 2000000 in
theorem from03_any (b : Nat) (hb : b < 18446744073709551616) (hf : fin b) (w : World) :
    Calls Try.prog 54 #[.float .f64 b] w fun e w' => (∃ v', e = .returned (.tuple #[v', .bool true]) ∧ DyV w' v' (fv b)) ∧ Below w.heap.size w w' := by
  have hsp := fun W => rsplit_any b hb W
  have K0 := Lib.hid ((KeepV.start w).alloc #[.bool false, .slice none 0 0, .int .i64 0] 38)
  obtain ⟨m, e, k, hm, he1, he2, hk, hsv, hval⟩ : ∃ (m : Nat) (e k : Int), m < 18446744073709551616 ∧ -1000000 ≤ e ∧ e ≤ 1000000 ∧ k ≤ 1 ∧ splitV b = .tuple #[.bool (sg b), .int .u64 (m : Int), .int .i64 e, .int .i64 k] ∧ fv b = sv (sg b) ((m : Rat) * pw e) := by
    rcases kind_cases b with h | ⟨h, h2, _⟩ | h | h
    · refine ⟨0, 0, 0, by decide, by decide, by decide, by decide, splitV_0 h, ?_⟩
      have h0 := kindS_0 h
      unfold fv
      rw [h0, show rm 0 = 0 from by decide, show ((0 : Nat) : Rat) = 0 from rfl, Rat.zero_mul, Rat.zero_mul]
    · have a1 := mantS_lt b
      have a2 := expS_ge b
      have a3 := expS_hi hf
      exact ⟨mantS b, expS b, 1, by omega, by omega, by omega, by decide, splitV_1 h, fv_sm b⟩
    · exact absurd (kindS_le.2 hf) (by omega)
    · exact absurd (kindS_le.2 hf) (by omega)
  rw [hsv] at hsp
  have HSP := Lib.hid hsp
  have HFR := Lib.hid (fun W => from02_any m hm W)
  have HNO := Lib.hid (fun W A c h => norm_any (sg b) e (nd m) A c W h ⟨he1, he2⟩ (by
    have h1 := nd_len_le (show m ≤ 18446744073709551615 by omega)
    have h2 : (nd 18446744073709551615).length ≤ 30000 := nd_max
    omega) (fv b) (by rw [vN_nd]; exact hval) (Q_fv hf))
  clear hsp hsv hval hf
  generalize sg b = s at *
  generalize fv b = x at *
  go_enter Try.func54, Try.ntmps54
  go_wp2_with ((go_at_call 42; refine (HSP.out _).mono ?_; rintro e w' ⟨rfl, rfl⟩))
  refine (HFR.out _).mono ?_
  rintro e1 w1 ⟨⟨v, rfl, B, cB, rfl, hv⟩, hb1⟩
  have K1 := Lib.hid (K0.out.call hb1)
  have HV := Lib.hid hv
  clear hv hb1
  go_wp2_with fail
  refine (HNO.out _ _ _ HV.out).mono ?_
  rintro e2 w2 ⟨⟨v, rfl, d2, A2, c2, rfl, hok2, hval2, hn2, hq2⟩, hb2⟩
  have r1 := (K1.out.call hb2).box (.head _)
  have HR := Lib.hid r1
  have HB := Lib.hid (K1.out.call hb2).below
  have HN2 := Lib.hid hn2; have HOK2 := Lib.hid hok2; have HVAL2 := Lib.hid hval2; have HQ2 := Lib.hid hq2
  obtain ⟨g0, g1, g2⟩ := r1.f3
  obtain ⟨c0, c1, c2'⟩ := r1.c3
  unfold dyV
  clear hb2 r1 hok2 hval2 hn2 hq2
  go_wp2
  refine ret_dy2 (v0 := .bool d2.neg) (v1 := .slice A2 (nd d2.n).length c2) (v2 := .int .i64 d2.e) (g := w.heap.size) rfl rfl rfl ((dy_box HR.out _ _ _).1) rfl ?_
  exact ⟨⟨_, rfl, d2, A2, c2, rfl, HOK2.out, HVAL2.out, HN2.out.stored HR.out _ _ _, HQ2.out⟩, (dy_box HR.out _ _ _).2.1 _ _ HB.out (Nat.le_refl _)⟩
end Go.Proofs.Ytigacobphgeeaaa

/- Contracts of dyads: Mul. -/
set_option linter.unusedVariables false
namespace Go.Proofs.Ytigacobphgeeaaa
open Go.RowKit Go.Shelf Lev

theorem KeepV.same3 {w W : World} {L M} (K : KeepV w W L []) {g : Nat} {t : TypeId} {v0 v1 v2 : Value} (hb : Bk W g t #[v0, v1, v2]) (hg : w.heap.size ≤ g) (_ : M = ([] : List (Option Addr × List Value × Nat))) : KeepV w (stored3 W g v0 v1 v2) L [] := by
  refine ⟨(dy_box hb v0 v1 v2).2.1 _ _ K.below hg, fun x hx => ?_, fun y hy => absurd hy List.not_mem_nil⟩
  have h := K.bk x hx
  by_cases e : x.1 = g
  · have h2 : W.heap[g]? = some (.cells x.2.2 x.2.1 (0, 0)) := by rw [← e]; exact h
    have h3 : W.heap[g]? = some (.cells #[v0, v1, v2] t (0, 0)) := hb
    rw [h2] at h3
    have h4 := Option.some.inj h3
    injection h4 with h5 h6
    rw [e, h5, h6]
    exact (dy_box hb v0 v1 v2).1
  · exact h.stored3 e v0 v1 v2
theorem ok_exp {d : Dy} (h : d.ok) : -20000 ≤ d.e ∧ d.e ≤ 20000 ∧ (nd d.n).length ≤ 1300 := by
  rcases h with ⟨h0, _, h⟩ | ⟨_, h1, h2, h3⟩
  · exact ⟨by omega, by omega, by rw [h0, nd_zero]; decide⟩
  · exact ⟨h1, h2, h3⟩
theorem sv_mulN (s t : Bool) (n m : Nat) (e f : Int) : sv s ((n : Rat) * pw e) * sv t ((m : Rat) * pw f) = sv (s != t) (((n * m : Nat) : Rat) * pw (e + f)) := by
  rw [sv_mul, pw_add, Rat.natCast_mul]
  have : (s ^^ t) = (s != t) := by cases s <;> cases t <;> rfl
  rw [this]; congr 1; grind

set_option maxRecDepth 100000 in
set_option maxHeartbeats 400000 in
theorem mul03_any (v1 v2 : Value) (x y : Rat) (w : World) (h1 : DyV w v1 x) (h2 : DyV w v2 y) (hq : Q (x * y)) :
    Calls Try.prog 21 #[v1, v2] w fun e w' => (∃ v', e = .returned v' ∧ DyV w' v' (x * y)) ∧ Below w.heap.size w w' := by
  obtain ⟨d1, A1, c1, rfl, hok1, hval1, hn1, hq1⟩ := h1
  obtain ⟨d2, A2, c2, rfl, hok2, hval2, hn2, hq2⟩ := h2
  obtain ⟨p1, p2, p3⟩ := ok_exp hok1
  obtain ⟨r1, r2, r3⟩ := ok_exp hok2
  have k0 := (((KeepV.start w).alloc #[.bool d1.neg, .slice A1 (nd d1.n).length c1, .int .i64 d1.e] 38).alloc #[.bool d2.neg, .slice A2 (nd d2.n).length c2, .int .i64 d2.e] 38).alloc #[.bool false, .slice none 0 0, .int .i64 0] 38
  rw [World.size_alloc, World.size_alloc] at k0
  have HM1 := fun W hW => may03_any d1 A1 c1 W (hn1.below hW) hok1
  have HM2 := fun W hW => may03_any d2 A2 c2 W (hn2.below hW) hok2
  have hxy : x * y = sv (d1.neg != d2.neg) (((d1.n * d2.n : Nat) : Rat) * pw (d1.e + d2.e)) := by rw [← hval1, ← hval2]; exact sv_mulN _ _ _ _ _ _
  have HMU := fun W hW => mul02_any (nd d1.n) (nd d2.n) A1 A2 c1 c2 W (hn1.below hW) (hn2.below hW) (by omega) (by omega)
  rw [vN_nd, vN_nd] at HMU
  have hll : (nd (d1.n * d2.n)).length ≤ 30000 := by
    have a1 := nd_lt d1.n
    have a2 := nd_lt d2.n
    have a3 : d1.n * d2.n < 4294967296 ^ ((nd d1.n).length + (nd d2.n).length) := by
      rw [Nat.pow_add]; exact Nat.mul_lt_mul'' a1 a2
    by_cases h0 : d1.n * d2.n = 0
    · rw [h0, nd_zero]; decide
    · have a4 := nd_ge h0
      rcases Nat.lt_or_ge 30000 (nd (d1.n * d2.n)).length with h | h
      · have := Nat.pow_le_pow_right (n := 4294967296) (by decide) (show (nd d1.n).length + (nd d2.n).length ≤ (nd (d1.n * d2.n)).length - 1 by omega)
        omega
      · exact h
  have hwr : IntKind.i64.wrap (d1.e + d2.e) = d1.e + d2.e := by rw [IntKind.wrap_i64]; omega
  have HNO : ∀ (W : World) (B : Option Addr) (cB : Nat), NatA W B (nd (d1.n * d2.n)) cB → Calls Try.prog 50 #[.bool (!d1.neg == d2.neg), .slice B (nd (d1.n * d2.n)).length cB, .int .i64 (IntKind.i64.wrap (d1.e + d2.e))] W fun e w' => (∃ v', e = .returned v' ∧ DyV w' v' (x * y)) ∧ Below W.heap.size W w' := fun W B cB hB => by
    rw [hwr]
    exact norm_any (d1.neg != d2.neg) (d1.e + d2.e) (nd (d1.n * d2.n)) B cB W hB (by omega) hll (x * y) (by rw [vN_nd]; exact hxy) hq
  clear hwr
  unfold dyV at HM1 HM2 ⊢
  have HM1 := Lib.hid HM1; have HM2 := Lib.hid HM2; have HMU := Lib.hid HMU; have HNO := Lib.hid HNO
  have K0 := Lib.hid k0
  have HN1 := Lib.hid hn1; have HN2 := Lib.hid hn2
  clear hn1 hn2 hok1 hok2 k0 hval1 hval2 hq1 hq2 hxy hll hq
  generalize x * y = z at *
  generalize d1.n * d2.n = N at *
  generalize nd d1.n = ds1 at *
  generalize nd d2.n = ds2 at *
  generalize d1.neg = s1 at *
  generalize d2.neg = s2 at *
  generalize d1.e = e1 at *
  generalize d2.e = e2 at *
  go_enter Try.func21, Try.ntmps21
  go_wp2_with fail
  refine (HM1.out _ K0.out.below).mono ?_
  rintro e w1 ⟨rfl, hb⟩
  have k1 := K0.out.call hb
  obtain ⟨a0, a1, a2⟩ := (k1.box (.tail _ (.head _))).c3
  obtain ⟨b0, b1, b2⟩ := (k1.box (.tail _ (.tail _ (.head _)))).c3
  obtain ⟨f0, f1, f2⟩ := (k1.box (.tail _ (.tail _ (.head _)))).f3
  have K1 := Lib.hid k1
  clear hb k1
  go_wp2_with fail
  have HK1 := Lib.hid (K1.out.same3 (M := []) (K1.out.box (.tail _ (.tail _ (.head _)))) (Nat.le_refl _) rfl)
  refine (HM2.out _ HK1.out.below).mono ?_
  rintro e w2 ⟨rfl, hb⟩
  have k2 := HK1.out.call hb
  have K2 := Lib.hid k2
  clear a0 a1 a2 b0 b1 b2 f0 f1 f2
  obtain ⟨a0, a1, a2⟩ := (k2.box (.tail _ (.head _))).c3
  obtain ⟨f0, f1, f2⟩ := (k2.box (.tail _ (.head _))).f3
  clear hb k2
  go_wp2_with fail
  obtain ⟨W, hW⟩ : ∃ W, W = ((w2.setCell ⟨w.heap.size + 1, 0, none⟩ (.bool s2)).setCell ⟨w.heap.size + 1, 1, none⟩ (.slice A2 ds2.length c2)).setCell ⟨w.heap.size + 1, 2, none⟩ (.int .i64 e2) := ⟨_, rfl⟩
  rw [← hW]
  have K3 := Lib.hid (show KeepV w W _ _ by rw [hW]; exact K2.out.same3 (M := []) (K2.out.box (.tail _ (.head _))) (Nat.le_succ _) rfl)
  clear a0 a1 a2 f0 f1 f2 hW
  have HKEEP := Lib.hid (fun Y (h : Below (w.heap.size + 2) W Y) => show ((Y.cell? ⟨w.heap.size, 0, none⟩ = some (.bool s1) ∧ Y.cell? ⟨w.heap.size, 1, none⟩ = some (.slice A1 ds1.length c1) ∧ Y.cell? ⟨w.heap.size, 2, none⟩ = some (.int .i64 e1)) ∧ Y.cell? ⟨w.heap.size + 1, 0, none⟩ = some (.bool s2) ∧ Y.cell? ⟨w.heap.size + 1, 1, none⟩ = some (.slice A2 ds2.length c2) ∧ Y.cell? ⟨w.heap.size + 1, 2, none⟩ = some (.int .i64 e2)) ∧ Below (w.heap.size + 2) W Y from
    ⟨⟨((K3.out.box (.tail _ (.tail _ (.head _)))).below h (by omega)).c3, ((K3.out.box (.tail _ (.head _))).below h (by omega)).c3⟩, h⟩)
  have hWs : w.heap.size + 2 ≤ W.heap.size := Nat.le_of_lt (K3.out.box (.head _)).lt
  go_wp2_with fail
  go_region_held3 (fun Y => ((Y.cell? ⟨w.heap.size, 0, none⟩ = some (.bool s1) ∧ Y.cell? ⟨w.heap.size, 1, none⟩ = some (.slice A1 ds1.length c1) ∧ Y.cell? ⟨w.heap.size, 2, none⟩ = some (.int .i64 e1)) ∧ Y.cell? ⟨w.heap.size + 1, 0, none⟩ = some (.bool s2) ∧ Y.cell? ⟨w.heap.size + 1, 1, none⟩ = some (.slice A2 ds2.length c2) ∧ Y.cell? ⟨w.heap.size + 1, 2, none⟩ = some (.int .i64 e2)) ∧ Below (w.heap.size + 2) W Y)
    ((refine HKEEP.out _ ?_; first | (refine Below.setCell (Below.setCell (Below.setCell hb8 (by dsimp only; omega) _) (by dsimp only; omega) _) (by dsimp only; omega) _) | (refine Below.mono (B := W.heap.size) ?_ hWs; repeat (first | assumption | exact Below.refl _ _ | refine Below.allocs ?_ _ | refine Below.drews ?_ | refine Below.chain ?_ (by assumption)))))
    (first
      | (go_at_call 53; (with_reducible refine (HMU.out _ (Below.chain K3.out.below (by repeat (first | assumption | exact Below.refl _ _ | refine Below.allocs ?_ _ | refine Below.drews ?_ | refine Below.chain ?_ (by assumption))))).mono ?_); rintro e w5 ⟨⟨v, rfl, B5, c5, rfl, hv5⟩, hb5⟩)
      | (go_at_call 50; (with_reducible refine (HNO.out _ _ _ (hv5.below (by repeat (first | assumption | exact Below.refl _ _ | refine Below.allocs ?_ _ | refine Below.drews ?_ | refine Below.chain ?_ (by assumption))))).mono ?_); rintro e w6 ⟨⟨v, rfl, d3, A3, c3, rfl, hok3, hval3, hn3, hq3⟩, hb6⟩; have hb7 : Below W.heap.size W w6 := (Below.chain (by repeat (first | assumption | exact Below.refl _ _ | refine Below.allocs ?_ _ | refine Below.drews ?_ | refine Below.chain ?_ (by assumption))) hb6); have hb8 : Below (w.heap.size + 2) W w6 := hb7.mono hWs; have bx := (K3.out.call hb7).box (.head _); obtain ⟨x0, x1, x2⟩ := bx.c3; obtain ⟨y0, y1, y2⟩ := bx.f3; unfold dyV))
  all_goals
    have HVAL := Lib.hid hval3; have HOK := Lib.hid hok3; have HNN := Lib.hid hn3; have HQQ := Lib.hid hq3
    have HBX := Lib.hid bx
    have HBE := Lib.hid (K3.out.call hb7).below
    clear hval3 hok3 hn3 hq3 bx
    go_wp2
    refine ret_dy1 (v0 := .bool d3.neg) (v1 := .slice A3 (nd d3.n).length c3) (v2 := .int .i64 d3.e) (g := w.heap.size + 1 + 1) rfl rfl ((dy_box HBX.out _ _ _).1) rfl ?_
    exact ⟨⟨_, rfl, d3, A3, c3, rfl, HOK.out, HVAL.out, HNN.out.stored HBX.out _ _ _, HQQ.out⟩, (dy_box HBX.out _ _ _).2.1 _ _ HBE.out (by omega)⟩
end Go.Proofs.Ytigacobphgeeaaa

/- Contracts of dyads: Pow of layer 4. -/
set_option linter.unusedVariables false
namespace Lev
theorem Q_pw {k : Int} (h1 : -20000 ≤ k) (h2 : k < 20000) : Q (pw k) := by
  refine ⟨?_, ?_⟩
  · obtain ⟨E, hE⟩ : ∃ E : Nat, k = E + (-20000) := ⟨(k + 20000).toNat, by omega⟩
    exact ⟨((2 ^ E : Nat) : Int), by rw [hE, pw_add, pw_nat]; rfl⟩
  · have : ab (pw k) = pw k := by unfold ab; rw [if_neg]; have := pw_pos k; grind
    rw [this]; exact pw_lt_iff.2 h2
end Lev
namespace Go.Proofs.Ytigacobphgeeaaa
open Go.RowKit Go.Shelf Lev

set_option maxRecDepth 100000 in
set_option maxHeartbeats 1000000 in
theorem pow04_any (k : Int) (h1 : -20000 ≤ k) (h2 : k < 20000) (w : World) :
    Calls Try.prog 20 #[.int .i64 k] w fun e w' => (∃ v', e = .returned v' ∧ DyV w' v' (pw k)) ∧ Below w.heap.size w w' := by
  have K0 := Lib.hid ((KeepV.start w).alloc #[.bool false, .slice none 0 0, .int .i64 0] 38)
  have HFR := Lib.hid (fun W => from02_any 1 (by decide) W)
  have HNO := Lib.hid (fun W A c h => norm_any false k (nd 1) A c W h (by omega) (Nat.le_trans (nd_len_le (show 1 ≤ 18446744073709551615 by omega)) nd_max) (pw k) (by rw [vN_nd, sv_false]; simp) (Q_pw h1 h2))
  generalize pw k = x at *
  go_enter Try.func20, Try.ntmps20
  go_wp2_with fail
  refine (HFR.out _).mono ?_
  rintro e1 w1 ⟨⟨v, rfl, B, cB, rfl, hv⟩, hb1⟩
  have K1 := Lib.hid (K0.out.call hb1)
  have HV := Lib.hid hv
  clear hv hb1
  go_wp2_with fail
  refine (HNO.out _ _ _ HV.out).mono ?_
  rintro e2 w2 ⟨⟨v, rfl, d2, A2, c2, rfl, hok2, hval2, hn2, hq2⟩, hb2⟩
  have r1 := (K1.out.call hb2).box (.head _)
  have HR := Lib.hid r1
  have HB := Lib.hid (K1.out.call hb2).below
  have HN2 := Lib.hid hn2; have HOK2 := Lib.hid hok2; have HVAL2 := Lib.hid hval2; have HQ2 := Lib.hid hq2
  obtain ⟨g0, g1, g2⟩ := r1.f3
  obtain ⟨c0, c1, c2'⟩ := r1.c3
  unfold dyV
  clear hb2 r1 hok2 hval2 hn2 hq2
  go_wp2
  refine ret_dy1 (v0 := .bool d2.neg) (v1 := .slice A2 (nd d2.n).length c2) (v2 := .int .i64 d2.e) (g := w.heap.size) rfl rfl ((dy_box HR.out _ _ _).1) rfl ?_
  exact ⟨⟨_, rfl, d2, A2, c2, rfl, HOK2.out, HVAL2.out, HN2.out.stored HR.out _ _ _, HQ2.out⟩, (dy_box HR.out _ _ _).2.1 _ _ HB.out (Nat.le_refl _)⟩
end Go.Proofs.Ytigacobphgeeaaa

/- Plain: the sum of two dyads. -/
set_option linter.unusedVariables false
namespace Lev
theorem dy_shift (n : Nat) {e f : Int} (h : f ≤ e) : (n : Rat) * pw e = ((n * 2 ^ (e - f).toNat : Nat) : Rat) * pw f := by
  have h1 : e = ((e - f).toNat : Int) + f := by omega
  conv => lhs; rw [h1, pw_add, pw_nat]
  rw [Rat.natCast_mul]; grind
theorem add_same (s : Bool) (n m : Nat) (f : Int) : sv s ((n : Rat) * pw f) + sv s ((m : Rat) * pw f) = sv s (((n + m : Nat) : Rat) * pw f) := by
  rw [Rat.natCast_add]
  cases s <;> unfold sv <;> simp only [Bool.false_eq_true, if_true, if_false] <;> grind
theorem add_diff (s t : Bool) (h : s ≠ t) {n m : Nat} (hm : m ≤ n) (f : Int) : sv s ((n : Rat) * pw f) + sv t ((m : Rat) * pw f) = sv s (((n - m : Nat) : Rat) * pw f) := by
  have e : (n : Rat) = ((n - m : Nat) : Rat) + (m : Rat) := by rw [← Rat.natCast_add]; congr 1; omega
  rw [e]
  cases s <;> cases t <;> first | exact absurd rfl h | (unfold sv; simp only [Bool.false_eq_true, if_true, if_false]; grind)
end Lev

/- Contracts of dyads: Add. -/
set_option linter.unusedVariables false
namespace Go.Proofs.Ytigacobphgeeaaa
open Go.RowKit Go.Shelf Lev

theorem run_minY {P : Program} (w : World) (ts : Array TypeId) (t : TypeId) (x y : Int) : (Builtin.min_ ts t #[.int .i64 x, .int .i64 y]).run P w = .ok (.int .i64 (min x y)) w := by
  rw [run_min_int2]
  congr 2
  split <;> omega
attribute [local go_sem high] run_minY

theorem nd_len_shift {n k : Nat} (h : (nd n).length ≤ 1300) (hk : k ≤ 40000) : (nd (n * 2 ^ k)).length ≤ 2600 := by
  by_cases h0 : n * 2 ^ k = 0
  · rw [h0, nd_zero]; decide
  · have a1 := nd_lt n
    have a2 := nd_ge h0
    have a3 : n * 2 ^ k < 4294967296 ^ ((nd n).length + 1250) := by
      obtain ⟨E, hE⟩ : ∃ E : Nat, E = 1250 := ⟨_, rfl⟩
      rw [← hE, Nat.pow_add]
      have h4 : 2 ^ k ≤ 4294967296 ^ E := by rw [pow32]; exact Nat.pow_le_pow_right (by decide) (by omega)
      exact Nat.lt_of_lt_of_le (Nat.mul_lt_mul_of_pos_right a1 (Nat.pow_pos (by decide))) (Nat.mul_le_mul (Nat.le_refl _) h4)
    rcases Nat.lt_or_ge 2600 (nd (n * 2 ^ k)).length with h | h
    · have := Nat.pow_le_pow_right (n := 4294967296) (by decide) (show (nd n).length + 1250 ≤ (nd (n * 2 ^ k)).length - 1 by omega)
      omega
    · exact h

set_option maxRecDepth 100000 in
set_option maxHeartbeats 400000 in
theorem add03_any (v1 v2 : Value) (x y : Rat) (w : World) (h1 : DyV w v1 x) (h2 : DyV w v2 y) (hq : Q (x + y)) :
    Calls Try.prog 26 #[v1, v2] w fun e w' => (∃ v', e = .returned v' ∧ DyV w' v' (x + y)) ∧ Below w.heap.size w w' := by
  obtain ⟨d1, A1, c1, rfl, hok1, hval1, hn1, hq1⟩ := h1
  obtain ⟨d2, A2, c2, rfl, hok2, hval2, hn2, hq2⟩ := h2
  obtain ⟨p1, p2, p3⟩ := ok_exp hok1
  obtain ⟨r1, r2, r3⟩ := ok_exp hok2
  have k0 := (((KeepV.start w).alloc #[.bool d1.neg, .slice A1 (nd d1.n).length c1, .int .i64 d1.e] 38).alloc #[.bool d2.neg, .slice A2 (nd d2.n).length c2, .int .i64 d2.e] 38).alloc #[.bool false, .slice none 0 0, .int .i64 0] 38
  rw [World.size_alloc, World.size_alloc] at k0
  have HM1 := fun W hW => may03_any d1 A1 c1 W (hn1.below hW) hok1
  have HM2 := fun W hW => may03_any d2 A2 c2 W (hn2.below hW) hok2
  obtain ⟨f, hf⟩ : ∃ f, f = min d1.e d2.e := ⟨_, rfl⟩
  have hf1 : f ≤ d1.e := by omega
  have hf2 : f ≤ d2.e := by omega
  have hf3 : -20000 ≤ f ∧ f ≤ 20000 := by omega
  obtain ⟨k1, hk1⟩ : ∃ k1 : Nat, (k1 : Int) = d1.e - f := ⟨(d1.e - f).toNat, by omega⟩
  obtain ⟨k2, hk2⟩ : ∃ k2 : Nat, (k2 : Int) = d2.e - f := ⟨(d2.e - f).toNat, by omega⟩
  have HS1 := fun W hW => shl02_any (nd d1.n) A1 c1 k1 (by omega) W (hn1.below hW) (by omega)
  have HS2 := fun W hW => shl02_any (nd d2.n) A2 c2 k2 (by omega) W (hn2.below hW) (by omega)
  rw [vN_nd] at HS1 HS2
  have hxv : x = sv d1.neg (((d1.n * 2 ^ k1 : Nat) : Rat) * pw f) := by
    rw [← hval1]; unfold Dy.v; rw [dy_shift d1.n hf1, show (d1.e - f).toNat = k1 from by omega]
  have hyv : y = sv d2.neg (((d2.n * 2 ^ k2 : Nat) : Rat) * pw f) := by
    rw [← hval2]; unfold Dy.v; rw [dy_shift d2.n hf2, show (d2.e - f).toNat = k2 from by omega]
  have hl1 := nd_len_shift (k := k1) p3 (by omega)
  have hl2 := nd_len_shift (k := k2) r3 (by omega)
  generalize d1.n * 2 ^ k1 = N1 at *
  generalize d2.n * 2 ^ k2 = N2 at *
  rw [hk1] at HS1
  rw [hk2] at HS2
  unfold dyV at HM1 HM2 ⊢
  have HM1 := Lib.hid HM1; have HM2 := Lib.hid HM2; have HS1 := Lib.hid HS1; have HS2 := Lib.hid HS2
  have K0 := Lib.hid k0
  have HXV := Lib.hid hxv; have HYV := Lib.hid hyv; have HQ := Lib.hid hq
  have hfm : min d1.e d2.e = f := hf.symm
  clear hn1 hn2 hok1 hok2 k0 hval1 hval2 hq1 hq2 hxv hyv hq hk1 hk2 hf
  generalize nd d1.n = ds1 at *
  generalize nd d2.n = ds2 at *
  generalize d1.neg = s1 at *
  generalize d2.neg = s2 at *
  generalize d1.e = e1 at *
  generalize d2.e = e2 at *
  go_enter Try.func26, Try.ntmps26
  go_wp2_with fail
  refine (HM1.out _ K0.out.below).mono ?_
  rintro e w1 ⟨rfl, hb⟩
  have k1 := K0.out.call hb
  obtain ⟨a0, a1, a2⟩ := (k1.box (.tail _ (.head _))).c3
  obtain ⟨b0, b1, b2⟩ := (k1.box (.tail _ (.tail _ (.head _)))).c3
  obtain ⟨f0, f1, f2⟩ := (k1.box (.tail _ (.tail _ (.head _)))).f3
  have K1 := Lib.hid k1
  clear hb k1
  go_wp2_with fail
  have HK1 := Lib.hid (K1.out.same3 (M := []) (K1.out.box (.tail _ (.tail _ (.head _)))) (Nat.le_refl _) rfl)
  refine (HM2.out _ HK1.out.below).mono ?_
  rintro e w2 ⟨rfl, hb⟩
  have k2 := HK1.out.call hb
  have K2 := Lib.hid k2
  clear a0 a1 a2 b0 b1 b2 f0 f1 f2
  obtain ⟨a0, a1, a2⟩ := (k2.box (.tail _ (.head _))).c3
  obtain ⟨f0, f1, f2⟩ := (k2.box (.tail _ (.head _))).f3
  obtain ⟨q0, q1, q2⟩ := (k2.box (.tail _ (.tail _ (.head _)))).c3
  clear hb k2
  go_wp2_with fail
  obtain ⟨W, hW⟩ : ∃ W, W = ((w2.setCell ⟨w.heap.size + 1, 0, none⟩ (.bool s2)).setCell ⟨w.heap.size + 1, 1, none⟩ (.slice A2 ds2.length c2)).setCell ⟨w.heap.size + 1, 2, none⟩ (.int .i64 e2) := ⟨_, rfl⟩
  rw [← hW]
  have K3 := Lib.hid (show KeepV w W _ _ by rw [hW]; exact K2.out.same3 (M := []) (K2.out.box (.tail _ (.head _))) (Nat.le_succ _) rfl)
  clear a0 a1 a2 f0 f1 f2 q0 q1 q2 hW
  obtain ⟨a0, a1, a2⟩ := (K3.out.box (.tail _ (.tail _ (.head _)))).c3
  obtain ⟨b0, b1, b2⟩ := (K3.out.box (.tail _ (.head _))).c3
  refine (HS1.out W K3.out.below).mono ?_
  rintro e w3 ⟨⟨v, rfl, B3, c3, rfl, hv3⟩, hb3⟩
  have k4 := K3.out.call hb3
  have K4 := Lib.hid k4
  have HV3 := Lib.hid hv3
  clear a0 a1 a2 b0 b1 b2
  obtain ⟨a0, a1, a2⟩ := (k4.box (.tail _ (.tail _ (.head _)))).c3
  obtain ⟨b0, b1, b2⟩ := (k4.box (.tail _ (.head _))).c3
  clear hb3 k4 hv3
  go_wp2_with fail
  refine (HS2.out w3 K4.out.below).mono ?_
  rintro e w4 ⟨⟨v, rfl, B4, c4, rfl, hv4⟩, hb4⟩
  have k5 := K4.out.call hb4
  have K5 := Lib.hid k5
  have HV3b := Lib.hid (HV3.out.below hb4)
  have HV4 := Lib.hid hv4
  clear a0 a1 a2 b0 b1 b2
  obtain ⟨a0, a1, a2⟩ := (k5.box (.tail _ (.tail _ (.head _)))).c3
  obtain ⟨b0, b1, b2⟩ := (k5.box (.tail _ (.head _))).c3
  clear hb4 k5 hv4 HV3
  by_cases hs : s1 = s2
  · subst hs
    have t0 : (s1 == s1) = true := beq_self_eq_true _
    have hzz : x + y = sv s1 (((N1 + N2 : Nat) : Rat) * pw f) := by rw [HXV.out, HYV.out]; exact add_same _ _ _ _
    have hNl : (nd (N1 + N2)).length ≤ 30000 := by
      by_cases h0 : N1 + N2 = 0
      · rw [h0, nd_zero]; decide
      · have a1 := nd_lt N1
        have a2 := nd_lt N2
        have a3 := nd_ge h0
        have a4 := Nat.pow_le_pow_right (n := 4294967296) (by decide) hl1
        have a5 := Nat.pow_le_pow_right (n := 4294967296) (by decide) hl2
        rcases Nat.lt_or_ge 30000 (nd (N1 + N2)).length with h | h
        · have a6 := Nat.pow_le_pow_right (n := 4294967296) (by decide) (show 2601 ≤ (nd (N1 + N2)).length - 1 by omega)
          obtain ⟨E, hE⟩ : ∃ E : Nat, E = 2600 := ⟨_, rfl⟩
          rw [show 2601 = E + 1 from by omega, Nat.pow_succ] at a6
          rw [← hE] at a4 a5
          omega
        · exact h
    have HAD := fun W hW => add02_any (nd N1) (nd N2) B3 B4 c3 c4 W (HV3b.out.below hW) (HV4.out.below hW) (by omega) (by omega)
    rw [vN_nd, vN_nd] at HAD
    have HNO := Lib.hid (fun W B cB hB => norm_any s1 f (nd (N1 + N2)) B cB W hB (by omega) hNl (x + y) (by rw [vN_nd]; exact hzz) HQ.out)
    have HAD := Lib.hid HAD
    clear hzz hNl
    generalize N1 + N2 = N at *
    have HKEEP := Lib.hid (fun Y (h : Below (w.heap.size + 2) w4 Y) => show ((Y.cell? ⟨w.heap.size, 0, none⟩ = some (.bool s1) ∧ Y.cell? ⟨w.heap.size, 1, none⟩ = some (.slice A1 ds1.length c1) ∧ Y.cell? ⟨w.heap.size, 2, none⟩ = some (.int .i64 e1)) ∧ Y.cell? ⟨w.heap.size + 1, 0, none⟩ = some (.bool s1) ∧ Y.cell? ⟨w.heap.size + 1, 1, none⟩ = some (.slice A2 ds2.length c2) ∧ Y.cell? ⟨w.heap.size + 1, 2, none⟩ = some (.int .i64 e2)) ∧ Below (w.heap.size + 2) w4 Y from
      ⟨⟨((K5.out.box (.tail _ (.tail _ (.head _)))).below h (by omega)).c3, ((K5.out.box (.tail _ (.head _))).below h (by omega)).c3⟩, h⟩)
    have hWs : w.heap.size + 2 ≤ w4.heap.size := Nat.le_of_lt (K5.out.box (.head _)).lt
    go_wp2_with fail
    go_region_held3 (fun Y => ((Y.cell? ⟨w.heap.size, 0, none⟩ = some (.bool s1) ∧ Y.cell? ⟨w.heap.size, 1, none⟩ = some (.slice A1 ds1.length c1) ∧ Y.cell? ⟨w.heap.size, 2, none⟩ = some (.int .i64 e1)) ∧ Y.cell? ⟨w.heap.size + 1, 0, none⟩ = some (.bool s1) ∧ Y.cell? ⟨w.heap.size + 1, 1, none⟩ = some (.slice A2 ds2.length c2) ∧ Y.cell? ⟨w.heap.size + 1, 2, none⟩ = some (.int .i64 e2)) ∧ Below (w.heap.size + 2) w4 Y)
      ((refine HKEEP.out _ ?_; first | (refine Below.setCell (Below.setCell (Below.setCell hb8 (by dsimp only; omega) _) (by dsimp only; omega) _) (by dsimp only; omega) _) | (refine Below.mono (B := w4.heap.size) ?_ hWs; repeat (first | assumption | exact Below.refl _ _ | refine Below.allocs ?_ _ | refine Below.drews ?_ | refine Below.chain ?_ (by assumption)))))
      (first
        | (go_at_call 58; (with_reducible refine (HAD.out _ (by repeat (first | assumption | exact Below.refl _ _ | refine Below.allocs ?_ _ | refine Below.drews ?_ | refine Below.chain ?_ (by assumption)))).mono ?_); rintro e w5 ⟨⟨v, rfl, B5, c5, rfl, hv5⟩, hb5⟩)
        | (go_at_call 50; (with_reducible refine (HNO.out _ _ _ (hv5.below (by repeat (first | assumption | exact Below.refl _ _ | refine Below.allocs ?_ _ | refine Below.drews ?_ | refine Below.chain ?_ (by assumption))))).mono ?_); rintro e w6 ⟨⟨v, rfl, d3, A3, c3', rfl, hok3, hval3, hn3, hq3⟩, hb6⟩; have hb7 : Below w4.heap.size w4 w6 := (Below.chain (by repeat (first | assumption | exact Below.refl _ _ | refine Below.allocs ?_ _ | refine Below.drews ?_ | refine Below.chain ?_ (by assumption))) hb6); have hb8 : Below (w.heap.size + 2) w4 w6 := hb7.mono hWs; have bx := (K5.out.call hb7).box (.head _); obtain ⟨x0, x1, x2⟩ := bx.c3; obtain ⟨y0, y1, y2⟩ := bx.f3; unfold dyV))
    all_goals
      have HVAL := Lib.hid hval3; have HOK := Lib.hid hok3; have HNN := Lib.hid hn3; have HQQ := Lib.hid hq3
      have HBX := Lib.hid bx
      have HBE := Lib.hid (K5.out.call hb7).below
      clear hval3 hok3 hn3 hq3 bx
      go_wp2
      refine ret_dy1 (v0 := .bool d3.neg) (v1 := .slice A3 (nd d3.n).length c3') (v2 := .int .i64 d3.e) (g := w.heap.size + 1 + 1) rfl rfl ((dy_box HBX.out _ _ _).1) rfl ?_
      exact ⟨⟨_, rfl, d3, A3, c3', rfl, HOK.out, HVAL.out, HNN.out.stored HBX.out _ _ _, HQQ.out⟩, (dy_box HBX.out _ _ _).2.1 _ _ HBE.out (by omega)⟩
  · have t0 : (s1 == s2) = false := by rw [beq_eq_false_iff_ne]; exact hs
    have HSN := Lib.hid hs
    clear hs
    by_cases hle : N2 ≤ N1
    · have hSU := sub02_any (nd N1) (nd N2) B3 B4 c3 c4 w4 HV3b.out HV4.out (by rw [vN_nd, vN_nd]; exact hle) (by omega) (by omega)
      rw [vN_nd, vN_nd] at hSU
      have HSU := Lib.hid hSU
      have hNl := Nat.le_trans (nd_len_le (Nat.sub_le N1 N2)) hl1
      have HNO := Lib.hid (fun W B cB hB => norm_any s1 f (nd (N1 - N2)) B cB W hB (by omega) (by omega) (x + y) (by rw [vN_nd, HXV.out, HYV.out]; exact add_diff _ _ HSN.out hle f) HQ.out)
      clear hSU hle hNl
      go_wp2_with fail
      refine HSU.out.mono ?_
      rintro e w5 ⟨⟨v, rfl, B5, c5, rfl, hv5⟩, hb5⟩
      have k6 := K5.out.call hb5
      have K6 := Lib.hid k6
      have HV5 := Lib.hid hv5
      clear a0 a1 a2 b0 b1 b2
      obtain ⟨a0, a1, a2⟩ := (k6.box (.tail _ (.tail _ (.head _)))).c3
      clear hb5 k6 hv5
      go_wp2_with fail
      refine (HNO.out _ _ _ HV5.out).mono ?_
      rintro e w7 ⟨⟨v, rfl, d3, A3, c3', rfl, hok3, hval3, hn3, hq3⟩, hb7⟩
      have bx := (K6.out.call hb7).box (.head _)
      have HBX := Lib.hid bx
      have HBE := Lib.hid (K6.out.call hb7).below
      have HVAL := Lib.hid hval3; have HOK := Lib.hid hok3; have HNN := Lib.hid hn3; have HQQ := Lib.hid hq3
      obtain ⟨x0, x1, x2⟩ := bx.c3
      obtain ⟨y0, y1, y2⟩ := bx.f3
      unfold dyV
      clear hval3 hok3 hn3 hq3 bx hb7
      go_wp2
      refine ret_dy1 (v0 := .bool d3.neg) (v1 := .slice A3 (nd d3.n).length c3') (v2 := .int .i64 d3.e) (g := w.heap.size + 1 + 1) rfl rfl ((dy_box HBX.out _ _ _).1) rfl ?_
      exact ⟨⟨_, rfl, d3, A3, c3', rfl, HOK.out, HVAL.out, HNN.out.stored HBX.out _ _ _, HQQ.out⟩, (dy_box HBX.out _ _ _).2.1 _ _ HBE.out (by omega)⟩
    · have hSL := sub02_less (nd N1) (nd N2) B3 B4 c3 c4 w4 HV3b.out HV4.out (by rw [vN_nd, vN_nd]; omega)
      have HSL := Lib.hid hSL
      have hSU := fun W hW => sub02_any (nd N2) (nd N1) B4 B3 c4 c3 W (HV4.out.below hW) (HV3b.out.below hW) (by rw [vN_nd, vN_nd]; omega) (by omega) (by omega)
      rw [vN_nd, vN_nd] at hSU
      have HSU := Lib.hid hSU
      have hNl := Nat.le_trans (nd_len_le (Nat.sub_le N2 N1)) hl2
      have HNO := Lib.hid (fun W B cB hB => norm_any s2 f (nd (N2 - N1)) B cB W hB (by omega) (by omega) (x + y) (by rw [vN_nd, HXV.out, HYV.out, Rat.add_comm]; exact add_diff _ _ (fun h => HSN.out h.symm) (by omega) f) HQ.out)
      clear hSL hSU hle hNl
      go_wp2_with fail
      refine HSL.out.mono ?_
      rintro e w5 ⟨rfl, hb5⟩
      have K6 := Lib.hid (K5.out.call hb5)
      have HSW := Lib.hid (HSU.out w5 hb5)
      clear a0 a1 a2 b0 b1 b2 hb5
      go_wp2_with fail
      refine HSW.out.mono ?_
      rintro e w6 ⟨⟨v, rfl, B5, c5, rfl, hv5⟩, hb6⟩
      have k7 := K6.out.call hb6
      have K7 := Lib.hid k7
      have HV5 := Lib.hid hv5
      obtain ⟨b0, b1, b2⟩ := (k7.box (.tail _ (.head _))).c3
      clear hb6 k7 hv5
      go_wp2_with fail
      refine (HNO.out _ _ _ HV5.out).mono ?_
      rintro e w7 ⟨⟨v, rfl, d3, A3, c3', rfl, hok3, hval3, hn3, hq3⟩, hb7⟩
      have bx := (K7.out.call hb7).box (.head _)
      have HBX := Lib.hid bx
      have HBE := Lib.hid (K7.out.call hb7).below
      have HVAL := Lib.hid hval3; have HOK := Lib.hid hok3; have HNN := Lib.hid hn3; have HQQ := Lib.hid hq3
      obtain ⟨x0, x1, x2⟩ := bx.c3
      obtain ⟨y0, y1, y2⟩ := bx.f3
      unfold dyV
      clear hval3 hok3 hn3 hq3 bx hb7
      go_wp2
      refine ret_dy1 (v0 := .bool d3.neg) (v1 := .slice A3 (nd d3.n).length c3') (v2 := .int .i64 d3.e) (g := w.heap.size + 1 + 1) rfl rfl ((dy_box HBX.out _ _ _).1) rfl ?_
      exact ⟨⟨_, rfl, d3, A3, c3', rfl, HOK.out, HVAL.out, HNN.out.stored HBX.out _ _ _, HQQ.out⟩, (dy_box HBX.out _ _ _).2.1 _ _ HBE.out (by omega)⟩
end Go.Proofs.Ytigacobphgeeaaa

/- Contracts of dyads: Sub. -/
set_option linter.unusedVariables false
namespace Go.Proofs.Ytigacobphgeeaaa
open Go.RowKit Go.Shelf Lev

set_option maxRecDepth 100000 in
set_option maxHeartbeats 400000 in
theorem sub03_any (v1 v2 : Value) (x y : Rat) (w : World) (h1 : DyV w v1 x) (h2 : DyV w v2 y) (hq : Q (x - y)) :
    Calls Try.prog 25 #[v1, v2] w fun e w' => (∃ v', e = .returned v' ∧ DyV w' v' (x - y)) ∧ Below w.heap.size w w' := by
  have hxy : x - y = x + -y := by grind
  rw [hxy] at hq ⊢
  have H1 := fun W hW => h1.below (w' := W) hW
  have HNG := fun W hW => neg03_any v2 y W (h2.below hW)
  have HAD := fun W v' hW h' => add03_any v1 v' x (-y) W (h1.below hW) h' hq
  obtain ⟨d1, A1, c1, rfl, _⟩ := h1
  obtain ⟨d2, A2, c2, rfl, _⟩ := h2
  have k0 := (((KeepV.start w).alloc #[.bool d1.neg, .slice A1 (nd d1.n).length c1, .int .i64 d1.e] 38).alloc #[.bool d2.neg, .slice A2 (nd d2.n).length c2, .int .i64 d2.e] 38).alloc #[.bool false, .slice none 0 0, .int .i64 0] 38
  rw [World.size_alloc, World.size_alloc] at k0
  unfold dyV at HNG HAD ⊢
  have HNG := Lib.hid HNG; have HAD := Lib.hid HAD
  generalize (nd d1.n).length = l1 at *
  generalize (nd d2.n).length = l2 at *
  generalize d1.neg = s1 at *
  generalize d2.neg = s2 at *
  generalize d1.e = e1 at *
  generalize d2.e = e2 at *
  obtain ⟨W, hW⟩ : ∃ W, W = ((w.alloc (.cells #[.bool s1, .slice A1 l1 c1, .int .i64 e1] 38)).alloc (.cells #[.bool s2, .slice A2 l2 c2, .int .i64 e2] 38)).alloc (.cells #[.bool false, .slice none 0 0, .int .i64 0] 38) := ⟨_, rfl⟩
  rw [← hW] at k0
  have K3 := Lib.hid k0
  have HKEEP := Lib.hid (fun Y (h : Below (w.heap.size + 2) W Y) => show ((Y.cell? ⟨w.heap.size, 0, none⟩ = some (.bool s1) ∧ Y.cell? ⟨w.heap.size, 1, none⟩ = some (.slice A1 l1 c1) ∧ Y.cell? ⟨w.heap.size, 2, none⟩ = some (.int .i64 e1)) ∧ Y.cell? ⟨w.heap.size + 1, 0, none⟩ = some (.bool s2) ∧ Y.cell? ⟨w.heap.size + 1, 1, none⟩ = some (.slice A2 l2 c2) ∧ Y.cell? ⟨w.heap.size + 1, 2, none⟩ = some (.int .i64 e2)) ∧ Below (w.heap.size + 2) W Y from
    ⟨⟨((K3.out.box (.tail _ (.tail _ (.head _)))).below h (by omega)).c3, ((K3.out.box (.tail _ (.head _))).below h (by omega)).c3⟩, h⟩)
  have hWs : w.heap.size + 2 ≤ W.heap.size := Nat.le_of_lt (K3.out.box (.head _)).lt
  have HW := Lib.hid hW
  clear hW k0 H1 hxy hq
  go_enter Try.func25, Try.ntmps25
  go_wp2_with fail
  rw [← HW.out]
  go_region_held3 (fun Y => ((Y.cell? ⟨w.heap.size, 0, none⟩ = some (.bool s1) ∧ Y.cell? ⟨w.heap.size, 1, none⟩ = some (.slice A1 l1 c1) ∧ Y.cell? ⟨w.heap.size, 2, none⟩ = some (.int .i64 e1)) ∧ Y.cell? ⟨w.heap.size + 1, 0, none⟩ = some (.bool s2) ∧ Y.cell? ⟨w.heap.size + 1, 1, none⟩ = some (.slice A2 l2 c2) ∧ Y.cell? ⟨w.heap.size + 1, 2, none⟩ = some (.int .i64 e2)) ∧ Below (w.heap.size + 2) W Y)
    ((refine HKEEP.out _ ?_; first | (refine Below.setCell (Below.setCell (Below.setCell hb8 (by dsimp only; omega) _) (by dsimp only; omega) _) (by dsimp only; omega) _) | (refine Below.mono (B := W.heap.size) ?_ hWs; repeat (first | assumption | exact Below.refl _ _ | refine Below.allocs ?_ _ | refine Below.drews ?_ | refine Below.chain ?_ (by assumption)))))
    (first
      | (go_at_call 56; (with_reducible refine (HNG.out _ (Below.chain K3.out.below (by repeat (first | assumption | exact Below.refl _ _ | refine Below.allocs ?_ _ | refine Below.drews ?_ | refine Below.chain ?_ (by assumption))))).mono ?_); rintro e w5 ⟨⟨v, rfl, d5, A5, c5, rfl, hok5, hval5, hn5, hq5⟩, hb5⟩; have hd5 : DyV w5 (dyV d5 A5 c5) (-y) := ⟨d5, A5, c5, rfl, hok5, hval5, hn5, hq5⟩; unfold dyV at *)
      | (go_at_call 26; (with_reducible refine (HAD.out _ _ (Below.chain K3.out.below (by repeat (first | assumption | exact Below.refl _ _ | refine Below.allocs ?_ _ | refine Below.drews ?_ | refine Below.chain ?_ (by assumption)))) (hd5.below (by repeat (first | assumption | exact Below.refl _ _ | refine Below.allocs ?_ _ | refine Below.drews ?_ | refine Below.chain ?_ (by assumption))))).mono ?_); rintro e w6 ⟨⟨v, rfl, d3, A3, c3, rfl, hok3, hval3, hn3, hq3⟩, hb6⟩; have hb7 : Below W.heap.size W w6 := (Below.chain (by repeat (first | assumption | exact Below.refl _ _ | refine Below.allocs ?_ _ | refine Below.drews ?_ | refine Below.chain ?_ (by assumption))) hb6); have hb8 : Below (w.heap.size + 2) W w6 := hb7.mono hWs; have bx := (K3.out.call hb7).box (.head _); obtain ⟨x0, x1, x2⟩ := bx.c3; obtain ⟨y0, y1, y2⟩ := bx.f3; unfold dyV))
  all_goals
    have HVAL := Lib.hid hval3; have HOK := Lib.hid hok3; have HNN := Lib.hid hn3; have HQQ := Lib.hid hq3
    have HBX := Lib.hid bx
    have HBE := Lib.hid (K3.out.call hb7).below
    clear hval3 hok3 hn3 hq3 bx
    go_wp2
    refine ret_dy1 (v0 := .bool d3.neg) (v1 := .slice A3 (nd d3.n).length c3) (v2 := .int .i64 d3.e) (g := w.heap.size + 1 + 1) rfl rfl ((dy_box HBX.out _ _ _).1) rfl ?_
    exact ⟨⟨_, rfl, d3, A3, c3, rfl, HOK.out, HVAL.out, HNN.out.stored HBX.out _ _ _, HQQ.out⟩, (dy_box HBX.out _ _ _).2.1 _ _ HBE.out (by omega)⟩
end Go.Proofs.Ytigacobphgeeaaa

/- Plain: the order of two dyads. -/
set_option linter.unusedVariables false
namespace Lev
def cmpQ (x y : Rat) : Int := if x < y then -1 else if y < x then 1 else 0
theorem cmpQ_le {x y : Rat} : cmpQ x y ≤ 0 ↔ x ≤ y := by
  unfold cmpQ
  split
  · constructor <;> intro _
    · grind
    · decide
  · split
    · constructor <;> intro h
      · exact absurd h (by decide)
      · grind
    · constructor <;> intro _
      · grind
      · decide
theorem cmp_nat (n m : Nat) (f : Int) : cmpQ ((n : Rat) * pw f) ((m : Rat) * pw f) = cmpN n m := by
  have hp := pw_pos f
  have key : ∀ a b : Nat, ((a : Rat) * pw f < (b : Rat) * pw f) ↔ a < b := fun a b =>
    ⟨fun h => Rat.natCast_lt_natCast.1 (Rat.lt_of_mul_lt_mul_right h (Rat.le_of_lt hp)), fun h => Rat.mul_lt_mul_of_pos_right (Rat.natCast_lt_natCast.2 h) hp⟩
  unfold cmpQ cmpN
  simp only [key]
end Lev

/- Contracts of dyads: Cmp. -/
set_option linter.unusedVariables false
namespace Lev
theorem cmpQ_lt {x y : Rat} (h : x < y) : cmpQ x y = -1 := by unfold cmpQ; rw [if_pos h]
theorem cmpQ_gt {x y : Rat} (h : y < x) : cmpQ x y = 1 := by unfold cmpQ; rw [if_neg (by grind), if_pos h]
theorem cmpQ_neg (x y : Rat) : cmpQ (-x) (-y) = -cmpQ x y := by
  unfold cmpQ
  rcases (by grind : x < y ∨ x = y ∨ y < x) with h | h | h
  · rw [if_neg (by grind), if_pos (by grind), if_pos h]; rfl
  · subst h; rw [if_neg (by grind), if_neg (by grind), if_neg (by grind), if_neg (by grind)]; rfl
  · rw [if_pos (by grind), if_neg (by grind), if_pos h]
theorem ok_sign {d : Dy} (h : d.ok) : (d.neg = true → d.v < 0) ∧ (d.neg = false → 0 ≤ d.v) := by
  unfold Dy.v
  refine ⟨fun hn => ?_, fun hn => ?_⟩
  · rcases h with ⟨_, h, _⟩ | ⟨h, _⟩
    · rw [h] at hn; cases hn
    · rw [hn, sv_true]
      have h1 : (0 : Rat) < (d.n : Rat) := Rat.natCast_pos.2 (by omega)
      have h2 := Rat.mul_pos h1 (pw_pos d.e)
      grind
  · rw [hn, sv_false]
    exact Rat.mul_nonneg Rat.natCast_nonneg (Rat.le_of_lt (pw_pos _))
theorem cmpN_bd (n m : Nat) : -1 ≤ cmpN n m ∧ cmpN n m ≤ 1 := by
  unfold cmpN; split
  · omega
  · split <;> omega
end Lev
namespace Go.Proofs.Ytigacobphgeeaaa
open Go.RowKit Go.Shelf Lev

attribute [local go_sem high] run_minY

set_option maxRecDepth 100000 in
set_option maxHeartbeats 400000 in
theorem cmp03_any (v1 v2 : Value) (x y : Rat) (w : World) (h1 : DyV w v1 x) (h2 : DyV w v2 y) :
    Calls Try.prog 29 #[v1, v2] w fun e w' => e = .returned (.int .i64 (cmpQ x y)) ∧ Below w.heap.size w w' := by
  obtain ⟨d1, A1, c1, rfl, hok1, hval1, hn1, hq1⟩ := h1
  obtain ⟨d2, A2, c2, rfl, hok2, hval2, hn2, hq2⟩ := h2
  obtain ⟨p1, p2, p3⟩ := ok_exp hok1
  obtain ⟨r1, r2, r3⟩ := ok_exp hok2
  obtain ⟨g1, g2⟩ := ok_sign hok1
  obtain ⟨g3, g4⟩ := ok_sign hok2
  rw [hval1] at g1 g2
  rw [hval2] at g3 g4
  have k0 := ((KeepV.start w).alloc #[.bool d1.neg, .slice A1 (nd d1.n).length c1, .int .i64 d1.e] 38).alloc #[.bool d2.neg, .slice A2 (nd d2.n).length c2, .int .i64 d2.e] 38
  rw [World.size_alloc] at k0
  have HM1 := fun W hW => may03_any d1 A1 c1 W (hn1.below hW) hok1
  have HM2 := fun W hW => may03_any d2 A2 c2 W (hn2.below hW) hok2
  obtain ⟨f, hf⟩ : ∃ f, f = min d1.e d2.e := ⟨_, rfl⟩
  have hf1 : f ≤ d1.e := by omega
  have hf2 : f ≤ d2.e := by omega
  have hf3 : -20000 ≤ f ∧ f ≤ 20000 := by omega
  obtain ⟨k1, hk1⟩ : ∃ k1 : Nat, (k1 : Int) = d1.e - f := ⟨(d1.e - f).toNat, by omega⟩
  obtain ⟨k2, hk2⟩ : ∃ k2 : Nat, (k2 : Int) = d2.e - f := ⟨(d2.e - f).toNat, by omega⟩
  have HS1 := fun W hW => shl02_any (nd d1.n) A1 c1 k1 (by omega) W (hn1.below hW) (by omega)
  have HS2 := fun W hW => shl02_any (nd d2.n) A2 c2 k2 (by omega) W (hn2.below hW) (by omega)
  rw [vN_nd] at HS1 HS2
  have hxv : x = sv d1.neg (((d1.n * 2 ^ k1 : Nat) : Rat) * pw f) := by
    rw [← hval1]; unfold Dy.v; rw [dy_shift d1.n hf1, show (d1.e - f).toNat = k1 from by omega]
  have hyv : y = sv d2.neg (((d2.n * 2 ^ k2 : Nat) : Rat) * pw f) := by
    rw [← hval2]; unfold Dy.v; rw [dy_shift d2.n hf2, show (d2.e - f).toNat = k2 from by omega]
  have HCM := Lib.hid (fun W A B ca cb ha hb => cmp02_any (nd (d1.n * 2 ^ k1)) (nd (d2.n * 2 ^ k2)) A B ca cb W ha hb)
  generalize d1.n * 2 ^ k1 = N1 at *
  generalize d2.n * 2 ^ k2 = N2 at *
  rw [vN_nd, vN_nd] at HCM
  have hw1 : IntKind.i64.wrap (d1.e - f) = d1.e - f := by rw [IntKind.wrap_i64]; omega
  have hw2 : IntKind.i64.wrap (d2.e - f) = d2.e - f := by rw [IntKind.wrap_i64]; omega
  rw [hk1, ← hw1] at HS1
  rw [hk2, ← hw2] at HS2
  unfold dyV at HM1 HM2 ⊢
  have HM1 := Lib.hid HM1; have HM2 := Lib.hid HM2; have HS1 := Lib.hid HS1; have HS2 := Lib.hid HS2
  have K0 := Lib.hid k0
  have HXV := Lib.hid hxv; have HYV := Lib.hid hyv
  have G1 := Lib.hid g1; have G2 := Lib.hid g2; have G3 := Lib.hid g3; have G4 := Lib.hid g4
  have hfm : min d1.e d2.e = f := hf.symm
  clear hn1 hn2 hok1 hok2 k0 hval1 hval2 hq1 hq2 hxv hyv hk1 hk2 hf g1 g2 g3 g4 hw1 hw2
  generalize nd d1.n = ds1 at *
  generalize nd d2.n = ds2 at *
  generalize d1.neg = s1 at *
  generalize d2.neg = s2 at *
  generalize d1.e = e1 at *
  generalize d2.e = e2 at *
  obtain ⟨cq, hcqq⟩ : ∃ cq, cq = cmpQ x y := ⟨_, rfl⟩
  rw [← hcqq]
  have HCQ := Lib.hid hcqq
  clear hcqq
  go_enter Try.func29, Try.ntmps29
  go_wp2_with fail
  refine (HM1.out _ K0.out.below).mono ?_
  rintro e w1 ⟨rfl, hb⟩
  have k1 := K0.out.call hb
  obtain ⟨a0, a1, a2⟩ := (k1.box (.head _)).c3
  obtain ⟨b0, b1, b2⟩ := (k1.box (.tail _ (.head _))).c3
  obtain ⟨f0, f1, f2⟩ := (k1.box (.tail _ (.head _))).f3
  have K1 := Lib.hid k1
  clear hb k1
  go_wp2_with fail
  have HK1 := Lib.hid (K1.out.same3 (M := []) (K1.out.box (.tail _ (.head _))) (Nat.le_refl _) rfl)
  refine (HM2.out _ HK1.out.below).mono ?_
  rintro e w2 ⟨rfl, hb⟩
  have k2 := HK1.out.call hb
  have K2 := Lib.hid k2
  clear a0 a1 a2 b0 b1 b2 f0 f1 f2
  obtain ⟨a0, a1, a2⟩ := (k2.box (.head _)).c3
  obtain ⟨f0, f1, f2⟩ := (k2.box (.head _)).f3
  obtain ⟨q0, q1, q2⟩ := (k2.box (.tail _ (.head _))).c3
  clear hb k2
  by_cases hs : s1 = s2
  · subst hs
    have hcq : cmpQ x y = if s1 then -cmpN N1 N2 else cmpN N1 N2 := by
      rw [HXV.out, HYV.out]
      cases s1
      · rw [sv_false, sv_false, cmp_nat]; rfl
      · rw [sv_true, sv_true, cmpQ_neg, cmp_nat]; rfl
    have hcb := cmpN_bd N1 N2
    have HC := Lib.hid (HCQ.out.trans hcq)
    clear hcq G1 G2 G3 G4 HCQ
    generalize cmpN N1 N2 = cm at *
    cases s1
    · go_wp2_with fail
      obtain ⟨W, hW⟩ : ∃ W, W = ((w2.setCell ⟨w.heap.size + 1, 0, none⟩ (.bool false)).setCell ⟨w.heap.size + 1, 1, none⟩ (.slice A2 ds2.length c2)).setCell ⟨w.heap.size + 1, 2, none⟩ (.int .i64 e2) := ⟨_, rfl⟩
      rw [← hW]
      have K3 := Lib.hid (show KeepV w W _ _ by rw [hW]; exact K2.out.same3 (M := []) (K2.out.box (.head _)) (Nat.le_succ _) rfl)
      clear a0 a1 a2 f0 f1 f2 q0 q1 q2 hW
      have HKEEP := Lib.hid (fun Y (h : Below (w.heap.size + 2) W Y) => show ((Y.cell? ⟨w.heap.size, 0, none⟩ = some (.bool false) ∧ Y.cell? ⟨w.heap.size, 1, none⟩ = some (.slice A1 ds1.length c1) ∧ Y.cell? ⟨w.heap.size, 2, none⟩ = some (.int .i64 e1)) ∧ Y.cell? ⟨w.heap.size + 1, 0, none⟩ = some (.bool false) ∧ Y.cell? ⟨w.heap.size + 1, 1, none⟩ = some (.slice A2 ds2.length c2) ∧ Y.cell? ⟨w.heap.size + 1, 2, none⟩ = some (.int .i64 e2)) ∧ Below (w.heap.size + 2) W Y from
        ⟨⟨((K3.out.box (.tail _ (.head _))).below h (by omega)).c3, ((K3.out.box (.head _)).below h (by omega)).c3⟩, h⟩)
      have hWs : w.heap.size + 2 ≤ W.heap.size := (K3.out.box (.head _)).lt
      go_region_held3 (fun Y => ((Y.cell? ⟨w.heap.size, 0, none⟩ = some (.bool false) ∧ Y.cell? ⟨w.heap.size, 1, none⟩ = some (.slice A1 ds1.length c1) ∧ Y.cell? ⟨w.heap.size, 2, none⟩ = some (.int .i64 e1)) ∧ Y.cell? ⟨w.heap.size + 1, 0, none⟩ = some (.bool false) ∧ Y.cell? ⟨w.heap.size + 1, 1, none⟩ = some (.slice A2 ds2.length c2) ∧ Y.cell? ⟨w.heap.size + 1, 2, none⟩ = some (.int .i64 e2)) ∧ Below (w.heap.size + 2) W Y)
        ((refine HKEEP.out _ ?_; (refine Below.mono (B := W.heap.size) ?_ hWs; repeat (first | assumption | exact Below.refl _ _ | refine Below.allocs ?_ _ | refine Below.drews ?_ | refine Below.chain ?_ (by assumption)))))
        (first
          | (go_at_call 57; (with_reducible refine (HS1.out _ (Below.chain K3.out.below (by repeat (first | assumption | exact Below.refl _ _ | refine Below.allocs ?_ _ | refine Below.drews ?_ | refine Below.chain ?_ (by assumption))))).mono ?_); rintro e w5 ⟨⟨v, rfl, B5, c5, rfl, hv5⟩, hb5⟩)
          | (go_at_call 57; (with_reducible refine (HS2.out _ (Below.chain K3.out.below (by repeat (first | assumption | exact Below.refl _ _ | refine Below.allocs ?_ _ | refine Below.drews ?_ | refine Below.chain ?_ (by assumption))))).mono ?_); rintro e w6 ⟨⟨v, rfl, B6, c6, rfl, hv6⟩, hb6⟩)
          | (go_at_call 60; (with_reducible refine (HCM.out _ _ _ _ _ (hv5.below (by repeat (first | assumption | exact Below.refl _ _ | refine Below.allocs ?_ _ | refine Below.drews ?_ | refine Below.chain ?_ (by assumption)))) (hv6.below (by repeat (first | assumption | exact Below.refl _ _ | refine Below.allocs ?_ _ | refine Below.drews ?_ | refine Below.chain ?_ (by assumption))))).mono ?_); rintro e w7 ⟨rfl, hb7⟩; have hb8 : Below W.heap.size W w7 := (Below.chain (by repeat (first | assumption | exact Below.refl _ _ | refine Below.allocs ?_ _ | refine Below.drews ?_ | refine Below.chain ?_ (by assumption))) hb7); obtain ⟨⟨⟨x0, _, _⟩, _⟩, _⟩ := HKEEP.out _ (hb8.mono hWs)))
      all_goals
        have HBE := Lib.hid (K3.out.call hb8).below
        go_wp2
        go_ret
        exact ⟨by rw [HC.out]; rfl, HBE.out⟩
    · go_wp2_with fail
      obtain ⟨W, hW⟩ : ∃ W, W = ((w2.setCell ⟨w.heap.size + 1, 0, none⟩ (.bool true)).setCell ⟨w.heap.size + 1, 1, none⟩ (.slice A2 ds2.length c2)).setCell ⟨w.heap.size + 1, 2, none⟩ (.int .i64 e2) := ⟨_, rfl⟩
      rw [← hW]
      have K3 := Lib.hid (show KeepV w W _ _ by rw [hW]; exact K2.out.same3 (M := []) (K2.out.box (.head _)) (Nat.le_succ _) rfl)
      clear a0 a1 a2 f0 f1 f2 q0 q1 q2 hW
      have HKEEP := Lib.hid (fun Y (h : Below (w.heap.size + 2) W Y) => show ((Y.cell? ⟨w.heap.size, 0, none⟩ = some (.bool true) ∧ Y.cell? ⟨w.heap.size, 1, none⟩ = some (.slice A1 ds1.length c1) ∧ Y.cell? ⟨w.heap.size, 2, none⟩ = some (.int .i64 e1)) ∧ Y.cell? ⟨w.heap.size + 1, 0, none⟩ = some (.bool true) ∧ Y.cell? ⟨w.heap.size + 1, 1, none⟩ = some (.slice A2 ds2.length c2) ∧ Y.cell? ⟨w.heap.size + 1, 2, none⟩ = some (.int .i64 e2)) ∧ Below (w.heap.size + 2) W Y from
        ⟨⟨((K3.out.box (.tail _ (.head _))).below h (by omega)).c3, ((K3.out.box (.head _)).below h (by omega)).c3⟩, h⟩)
      have hWs : w.heap.size + 2 ≤ W.heap.size := (K3.out.box (.head _)).lt
      go_region_held3 (fun Y => ((Y.cell? ⟨w.heap.size, 0, none⟩ = some (.bool true) ∧ Y.cell? ⟨w.heap.size, 1, none⟩ = some (.slice A1 ds1.length c1) ∧ Y.cell? ⟨w.heap.size, 2, none⟩ = some (.int .i64 e1)) ∧ Y.cell? ⟨w.heap.size + 1, 0, none⟩ = some (.bool true) ∧ Y.cell? ⟨w.heap.size + 1, 1, none⟩ = some (.slice A2 ds2.length c2) ∧ Y.cell? ⟨w.heap.size + 1, 2, none⟩ = some (.int .i64 e2)) ∧ Below (w.heap.size + 2) W Y)
        ((refine HKEEP.out _ ?_; (refine Below.mono (B := W.heap.size) ?_ hWs; repeat (first | assumption | exact Below.refl _ _ | refine Below.allocs ?_ _ | refine Below.drews ?_ | refine Below.chain ?_ (by assumption)))))
        (first
          | (go_at_call 57; (with_reducible refine (HS1.out _ (Below.chain K3.out.below (by repeat (first | assumption | exact Below.refl _ _ | refine Below.allocs ?_ _ | refine Below.drews ?_ | refine Below.chain ?_ (by assumption))))).mono ?_); rintro e w5 ⟨⟨v, rfl, B5, c5, rfl, hv5⟩, hb5⟩)
          | (go_at_call 57; (with_reducible refine (HS2.out _ (Below.chain K3.out.below (by repeat (first | assumption | exact Below.refl _ _ | refine Below.allocs ?_ _ | refine Below.drews ?_ | refine Below.chain ?_ (by assumption))))).mono ?_); rintro e w6 ⟨⟨v, rfl, B6, c6, rfl, hv6⟩, hb6⟩)
          | (go_at_call 60; (with_reducible refine (HCM.out _ _ _ _ _ (hv5.below (by repeat (first | assumption | exact Below.refl _ _ | refine Below.allocs ?_ _ | refine Below.drews ?_ | refine Below.chain ?_ (by assumption)))) (hv6.below (by repeat (first | assumption | exact Below.refl _ _ | refine Below.allocs ?_ _ | refine Below.drews ?_ | refine Below.chain ?_ (by assumption))))).mono ?_); rintro e w7 ⟨rfl, hb7⟩; have hb8 : Below W.heap.size W w7 := (Below.chain (by repeat (first | assumption | exact Below.refl _ _ | refine Below.allocs ?_ _ | refine Below.drews ?_ | refine Below.chain ?_ (by assumption))) hb7); obtain ⟨⟨⟨x0, _, _⟩, _⟩, _⟩ := HKEEP.out _ (hb8.mono hWs)))
      all_goals
        have HBE := Lib.hid (K3.out.call hb8).below
        go_wp2
        go_ret
        exact ⟨by rw [HC.out]; rfl, HBE.out⟩
  · have t0 : (s1 != s2) = true := by rw [bne_iff_ne]; exact hs
    have hcq : cmpQ x y = if s1 then -1 else 1 := by
      cases s1
      · cases s2
        · exact absurd rfl hs
        · rw [cmpQ_gt]; rfl
          have := G2.out rfl; have := G3.out rfl; grind
      · cases s2
        · rw [cmpQ_lt]; rfl
          have := G1.out rfl; have := G4.out rfl; grind
        · exact absurd rfl hs
    have HC := Lib.hid (HCQ.out.trans hcq)
    have K4 := Lib.hid (K2.out.same3 (M := []) (K2.out.box (.head _)) (Nat.le_succ _) rfl)
    have HBE := Lib.hid K4.out.below
    unfold stored3 at HBE
    have HS := Lib.hid hs
    clear hcq HXV HYV G1 G2 G3 G4 hs HCQ t0
    cases s1 <;> cases s2
    · exact absurd rfl HS.out
    · go_wp2
      go_ret
      exact ⟨by rw [HC.out]; rfl, HBE.out⟩
    · go_wp2
      go_ret
      exact ⟨by rw [HC.out]; rfl, HBE.out⟩
    · exact absurd rfl HS.out
end Go.Proofs.Ytigacobphgeeaaa
