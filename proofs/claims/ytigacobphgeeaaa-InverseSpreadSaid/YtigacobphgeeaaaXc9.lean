/- Contract of package inverse: square. -/
import Derived.Test.YtigacobphgeeaaaXa9
import Derived.Test.YtigacobphgeeaaaK9
import Derived.Deep.DeepCutAuto
import Derived.Deep.RegionHeld3
set_option linter.unusedVariables false
namespace Go.Proofs.Ytigacobphgeeaaa
open Go.RowKit Go.Shelf Lev

theorem info_f64s : (Try.prog.info? 22).map (fun i => (i.zero, i.size, i.bytes)) = some (some (.slice none 0 0), 1, 24) := by kernel_rfl
/-- The first q cells are rows. -/
def Rowed (w : World) (lo n : Nat) (row : Nat → List Nat) (cells : Array Value) (q : Nat) : Prop := ∀ i, i < q → ∃ b o k, cells[i]? = some (.slice (some ⟨b, o, none⟩) n k) ∧ SlArg w (some ⟨b, o, none⟩) (row i) k ∧ (row i).length = n ∧ lo ≤ b
theorem Rowed.below {w w' : World} {lo n q : Nat} {row : Nat → List Nat} {cells : Array Value} (h : Rowed w lo n row cells q) (hb : Below w.heap.size w w') : Rowed w' lo n row cells q := fun i hi => by
  obtain ⟨b, o, k, h1, h2, h3, h4⟩ := h i hi
  exact ⟨b, o, k, h1, h2.below hb, h3, h4⟩
theorem Rowed.set {w : World} {lo n q : Nat} {row : Nat → List Nat} {cells : Array Value} (h : Rowed w lo n row cells q) (hq : q < cells.size) {g b o k : Nat} (hg : g < lo) (hs : SlArg w (some ⟨b, o, none⟩) (row q) k) (hl : (row q).length = n) (hb : lo ≤ b) :
    Rowed (w.setCell ⟨g, q, none⟩ (.slice (some ⟨b, o, none⟩) n k)) lo n row (cells.setIfInBounds q (.slice (some ⟨b, o, none⟩) n k)) (q + 1) := fun i hi => by
  by_cases e : i = q
  · subst e
    exact ⟨b, o, k, Array.getElem?_setIfInBounds_self_of_lt hq, hs.setCell (fun _ a ha => by cases ha; show b ≠ g; omega) _, hl, hb⟩
  · obtain ⟨b1, o1, k1, h1, h2, h3, h4⟩ := h i (by omega)
    refine ⟨b1, o1, k1, by rw [Array.getElem?_setIfInBounds_ne (by omega)]; exact h1, h2.setCell (fun _ a ha => by cases ha; show b1 ≠ g; omega) _, h3, h4⟩
/-- The rows as a square. -/
theorem Rowed.mat {w : World} {lo n B : Nat} {t : TypeId} {row : Nat → List Nat} {cells : Array Value} {M : Nat → Nat → Nat} (h : Rowed w lo n row cells n) (hn : 0 < n) (hB : Bk w B t cells) (hM : ∀ i j, i < n → j < n → (row i)[j]?.getD 0 = M i j) (hl : ∀ i j, M i j < 18446744073709551616) :
    ∃ b o k : Nat → Nat, RMat w B n b o k M ∧ ∀ i, i < n → lo ≤ b i := by
  have h2 : ∀ i : Nat, ∃ x : Nat × Nat × Nat, i < n → cells[i]? = some (.slice (some ⟨x.1, x.2.1, none⟩) n x.2.2) ∧ SlArg w (some ⟨x.1, x.2.1, none⟩) (row i) x.2.2 ∧ (row i).length = n ∧ lo ≤ x.1 := fun i => by
    by_cases hi : i < n
    · obtain ⟨b, o, k, h3⟩ := h i hi
      exact ⟨(b, o, k), fun _ => h3⟩
    · exact ⟨(0, 0, 0), fun h => absurd h hi⟩
  obtain ⟨x, hx⟩ := Classical.axiomOfChoice h2
  have hrd : ∀ i, i < n → (x i).1 < w.heap.size ∧ ∀ j, j < n → w.cell? ⟨(x i).1, (x i).2.1 + j, none⟩ = some (.float .f64 ((row i)[j]?.getD 0)) := fun i hi => by
    obtain ⟨_, h4, h5, _⟩ := hx i hi
    obtain ⟨b, o, e, h6, h7⟩ := h4.reads.2 (by omega)
    cases e
    exact ⟨h6, fun j hj => h7 j (by omega)⟩
  refine ⟨fun i => (x i).1, fun i => (x i).2.1, fun i => (x i).2.2, ⟨fun i hi => (hB.cell i).trans (hx i hi).1, fun i j hi hj => by rw [(hrd i hi).2 j hj, hM i j hi hj], hB.lt, fun i hi => (hrd i hi).1, hl, fun i hi => ?_⟩, fun i hi => (hx i hi).2.2.2⟩
  obtain ⟨_, h4, h5, _⟩ := hx i hi
  exact ⟨by have := h4.cap; omega, h4.room⟩

set_option maxRecDepth 100000 in
set_option maxHeartbeats 4000000 in
theorem square_any (f : Fct) (A : Option Addr) (c : Nat) (w : World) (hx : SlArg w A f.xs c) (hok : f.ok = true) (n : Nat) (hn : f.C = (n : Int)) :
    Calls Try.prog 37 #[facV f.C A f.xs.length c f.R f.T] w fun e w' => (∃ B : Nat, e = .returned (.slice (some ⟨B, 0, none⟩) n n) ∧ ∃ b : Nat → Nat, (∃ o k : Nat → Nat, RMat w' B n b o k (fun i j => getS f i j)) ∧ w.heap.size ≤ B ∧ ∀ i, i < n → w.heap.size ≤ b i) ∧ Below w.heap.size w w' := by
  have hn6 : 1 ≤ n ∧ n ≤ 6 := by have := ok_len hok; omega
  have hh : ∀ k : Nat, k ≤ n → hasS f k = true := fun k hk => hasS_iff.2 ⟨hok, by omega, by omega⟩
  have hlen : ∀ k : Nat, k ≤ n → (lineS f k).length = n + 1 := fun k hk => by rw [lineS_length (hh k hk)]; omega
  have hget : ∀ i j : Nat, i < n → j < n → ((lineS f i).take n)[j]?.getD 0 = getS f i j := fun i j hi hj => by
    rw [List.getElem?_take_of_lt hj]; exact lineS_get (hh i (by omega)) (by omega)
  have hl64 := fun i j : Nat => getS_lt hx.reads.1 (i : Int) (j : Int)
  have hln := fun (k : Nat) W hW => line_any f A c (k : Int) W hW
  have hmk := fun w => run_make_row' (P := Try.prog) 52 22 (.slice none 0 0) 24 Try.underlying52 info_f64s rfl .i64 .i64 n (by omega) (by omega) w
  have k0 := (((Keep.start w).more hx).alloc #[.int .i64 f.C, .slice A f.xs.length c, .int .i64 f.R, .int .i64 f.T] 24).alloc (madeCells #[.slice none 0 0] n) 22
  rw [World.size_alloc] at k0
  obtain ⟨W0, hW0⟩ : ∃ W0, W0 = (w.alloc (.cells #[.int .i64 f.C, .slice A f.xs.length c, .int .i64 f.R, .int .i64 f.T] 24)).alloc (.cells (madeCells #[.slice none 0 0] n) 22) := ⟨_, rfl⟩
  rw [← hW0] at k0
  have hs0 : W0.heap.size = w.heap.size + 2 := by rw [hW0]; simp
  have HXO := Lib.hid (hx.old (g := w.heap.size + 1) (by omega))
  have K0 := Lib.hid k0; have HW0 := Lib.hid hW0; have HS0 := Lib.hid hs0
  have HLEN := Lib.hid hlen; have HGET := Lib.hid hget; have HL64 := Lib.hid hl64
  unfold facV at hln ⊢
  rw [hn] at hln K0 HW0 ⊢
  have HLN := Lib.hid hln
  obtain ⟨hn1, hn2⟩ := hn6
  clear hx hok hn hh hlen hget hl64 hln k0 hW0 hs0
  go_enter Try.func37, Try.ntmps37
  go_wp2_with fail
  rw [← HW0.out]
  go_loopw [10] (fun iv wr => ∃ (q : Nat) (cells : Array Value), q ≤ n ∧ iv = .int .i64 (q : Int) ∧ Bk wr (w.heap.size + 1) 22 cells ∧ cells.size = n ∧ Rowed wr (w.heap.size + 2) n (fun i => (lineS f (i : Int)).take n) cells q ∧ Keep w wr [(w.heap.size, 24, #[.int .i64 (n : Int), .slice A f.xs.length c, .int .i64 f.R, .int .i64 f.T])] [(A, f.xs, c)] ∧ w.heap.size + 2 ≤ wr.heap.size) (fun iv _ => n - (intOf iv).toNat)
  case atStart => exact ⟨0, _, Nat.zero_le _, rfl, K0.out.box (.head _), by rw [size_madeCells], fun i hi => absurd hi (Nat.not_lt_zero _), ⟨K0.out.below, fun x hx => K0.out.bk x (.tail _ hx), K0.out.sl⟩, by have := HS0.out; omega⟩
  case round =>
    obtain ⟨q, cells, hq, rfl, hB, hsz, hR, hK, hws⟩ := hrel
    have HB := Lib.hid hB; have HSZ := Lib.hid hsz; have HR := Lib.hid hR; have HK := Lib.hid hK; have HWS := Lib.hid hws
    obtain ⟨r0, r1, r2, r3⟩ := (hK.box (.head _)).c4
    clear hB hsz hR hK hws
    by_cases hlt : (q : Int) < (n : Int)
    · have hlq := HLEN.out q (by omega)
      have HLQ := Lib.hid hlq
      have hcq : ∃ u, cells[q]? = some u := ⟨_, Array.getElem?_eq_getElem (by have := HSZ.out; omega)⟩
      obtain ⟨u, hu⟩ := hcq
      have hB2 := HB.out
      have c0 : wr.cell? ⟨w.heap.size + 1, q, none⟩ = some u := (hB2.cell q).trans hu
      have f0 := hB2.frozen q
      have H1 := Lib.hid (fun W hW => HLN.out q W hW)
      have HBX := Lib.hid (fun Y (h : Below wr.heap.size wr Y) => And.intro ((HK.out.call h).box (.head _)).c4 (And.intro ((HB.out.below h HB.out.lt).cell q |>.trans hu) ((HB.out.below h HB.out.lt).frozen q)))
      have HXW := Lib.hid (fun Y (h : Below wr.heap.size wr Y) => (HK.out.call h).arg (.head _))
      clear hlq hB2
      go_wp2_with fail
      go_region_with (go_at_call 69; (refine (H1.out _ (HXW.out _ ?_)).mono ?_); (exact (by repeat (first | assumption | exact Below.refl _ _ | refine Below.drews ?_ | refine Below.chain ?_ (by assumption)))); rintro e w3 ⟨⟨v, rfl, A3, c3, rfl, hs3, hA3⟩, hb3⟩; have hb4 : Below wr.heap.size wr w3 := (by repeat (first | assumption | exact Below.refl _ _ | refine Below.drews ?_ | refine Below.chain ?_ (by assumption))); obtain ⟨⟨y0, y1, y2, y3⟩, y4, y5⟩ := HBX.out w3 hb4; rw [HLQ.out]; have hcap : n + 1 ≤ c3 := (by have := hs3.cap; have := HLQ.out; omega); have hcap2 : c3 ≤ 9223372036854775807 := hs3.room)
      all_goals
        have hb9 : w3.heap.size = w3.heap.size := rfl
        obtain ⟨b3, o3, hAe, hb3l, _⟩ := hs3.reads.2 (by have := HLQ.out; omega)
        have hlo : wr.heap.size ≤ b3 := hA3 _ hAe
        subst hAe
        have hst := hs3.take (k := n) (by have := HLQ.out; omega)
        have HST := Lib.hid hst; have HLO := Lib.hid (Nat.le_trans HWS.out hlo)
        have hB3 := Lib.hid ((HB.out.below hb4 HB.out.lt).set q (.slice (some ⟨b3, o3, none⟩) n c3))
        have hR3 := Lib.hid ((HR.out.below hb4).set (g := w.heap.size + 1) (by have := HSZ.out; omega) (by omega) hst (by rw [List.length_take]; have := HLQ.out; omega) (Nat.le_trans HWS.out hlo))
        have k3 := HK.out.call hb4
        have hK3 : Keep w (w3.setCell ⟨w.heap.size + 1, q, none⟩ (.slice (some ⟨b3, o3, none⟩) n c3)) [(w.heap.size, 24, #[.int .i64 (n : Int), .slice A f.xs.length c, .int .i64 f.R, .int .i64 f.T])] [(A, f.xs, c)] :=
          ⟨k3.below.setCell (by dsimp only; omega) _, fun x hx => by
            rw [List.mem_singleton.1 hx]; exact (k3.box (.head _)).other (p := ⟨w.heap.size + 1, q, none⟩) (by dsimp only; omega) _, fun x hx => by
            rw [List.mem_singleton.1 hx]; exact (k3.arg (.head _)).setCell (p := ⟨w.heap.size + 1, q, none⟩) (HXO.out) _⟩
        have HK3 := Lib.hid hK3
        have hsz3 : w.heap.size + 2 ≤ (w3.setCell ⟨w.heap.size + 1, q, none⟩ (.slice (some ⟨b3, o3, none⟩) n c3)).heap.size := by
          have := hb4.size; have := HWS.out; simp [World.setCell]; omega
        have HSZ3 := Lib.hid hsz3
        go_wp2
        go_roundw
        case rel => exact ⟨q + 1, _, by omega, by go_num, hB3.out, by rw [Array.size_setIfInBounds]; exact HSZ.out, hR3.out, HK3.out, HSZ3.out⟩
        case measure => simp [intOf]; omega
    · obtain rfl : q = n := by omega
      have hm := HR.out.mat (M := fun i j => getS f i j) (by omega) HB.out (fun i j hi hj => HGET.out i j hi hj) HL64.out
      obtain ⟨b, o, k, hm1, hm2⟩ := hm
      have HM := Lib.hid (And.intro hm1 hm2)
      clear hm1 hm2
      go_wp2
      go_ret
      exact ⟨⟨w.heap.size + 1, rfl, b, ⟨o, k, HM.out.1⟩, by omega, fun i hi => by have := HM.out.2 i hi; omega⟩, HK.out.below⟩
end Go.Proofs.Ytigacobphgeeaaa
