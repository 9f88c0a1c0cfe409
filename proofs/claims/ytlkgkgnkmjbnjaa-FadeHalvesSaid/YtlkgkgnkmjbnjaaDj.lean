/- The document's answer for fading often. -/
import Derived.Test.YtlkgkgnkmjbnjaaDh
import Derived.Test.YtlkgkgnkmjbnjaaPd
namespace Lev
theorem often_step {f : Fct} {b : Nat} {k j : Int} (h : oftenE f b k = 0) (hj : 0 ≤ j) (hjk : j < k) :
    oftenE ⟨f.C, fadeN b j.toNat f.xs, f.R, f.T + j⟩ b 1 = 0 ∧ oftenF ⟨f.C, fadeN b j.toNat f.xs, f.R, f.T + j⟩ b 1 = ⟨f.C, fadeN b (j.toNat + 1) f.xs, f.R, f.T + (j + 1)⟩ := by
  obtain ⟨h1, h2, h3, h4⟩ := oftenE_ok.1 h
  have hok : ∀ n : Nat, (n : Int) ≤ k → checkS f.C (fadeN b n f.xs) f.R (f.T + n) = true := by
    intro n
    induction n with
    | zero => intro _; have : checkS f.C f.xs f.R f.T = true := h1; simpa [fadeN] using this
    | succ n ih =>
      intro hn
      have hl := check_len (show checkS f.C f.xs f.R f.T = true from h1)
      exact fade_check (ih (by omega)) h3 (by have := hl.2.2.2.2.2.1; omega) (by omega)
  have hE : oftenE ⟨f.C, fadeN b j.toNat f.xs, f.R, f.T + j⟩ b 1 = 0 := by
    have h5 := hok j.toNat (by omega)
    rw [show ((j.toNat : Nat) : Int) = j from by omega] at h5
    exact oftenE_ok.2 ⟨h5, by omega, h3, by show 1 ≤ 4096 - (f.T + j); omega⟩
  refine ⟨hE, ?_⟩
  unfold oftenF
  rw [if_pos hE]
  show (⟨f.C, fadeL b (fadeN b j.toNat f.xs), f.R, f.T + j + 1⟩ : Fct) = _
  rw [show f.T + j + 1 = f.T + (j + 1) from by omega]
  rfl
end Lev
namespace Go.Proofs.Ytlkgkgnkmjbnjaa
open Go.RowKit Go.Shelf Lev

set_option maxRecDepth 100000 in
set_option maxHeartbeats 1000000 in
theorem rOften_any (f : Fct) (A : Option Addr) (c : Nat) (b : Nat) (k : Int) (w : World) (hx : SlArg w A f.xs c) (_hk : -9223372036854775808 ≤ k ∧ k ≤ 9223372036854775807) :
    Calls Try.prog 16 #[facV f.C A f.xs.length c f.R f.T, .float .f64 b, .int .i64 k] w fun e w' => (∃ v, e = .returned (.tuple #[v, .int .i64 (oftenE f b k)]) ∧ FacB w.heap.size A w' v (oftenF f b k)) ∧ Below w.heap.size w w' := by
  have HX := Lib.hid hx
  have HCK := Lib.hid (fun W hW => rcheck_any f.C A f.xs c f.R f.T W hW)
  have HM := Lib.hid (rmay_any b)
  have hl63 : f.xs.length ≤ 9223372036854775807 := Nat.le_trans hx.cap hx.room
  clear hx
  unfold facV at HCK ⊢
  by_cases h : oftenE f b k = 0
  · obtain ⟨h1, h2, h3, h4⟩ := oftenE_ok.1 h
    have hF : oftenF f b k = ⟨f.C, fadeN b k.toNat f.xs, f.R, f.T + k⟩ := by unfold oftenF; rw [if_pos h]
    rw [h, hF]
    rw [show checkS f.C f.xs f.R f.T = true from h1] at HCK
    rw [h3] at HM
    have hl := ok_len h1
    have hT0 := hl.2.2.2.2.2.1
    have hT1 := hl.2.2.2.2.2.2.1
    have hxl := hl.2.2.2.2.2.2.2.1
    have d1 : decide (k < 0) = false := decide_eq_false (by omega)
    have d2 : decide (4096 - f.T < k) = false := decide_eq_false (by omega)
    have HH := Lib.hid h; have H1 := Lib.hid h1; have H3 := Lib.hid h3
    have hfl : ∀ j, (fadeN b j f.xs).length = f.xs.length := fun j => fadeN_length b j f.xs
    have HFL := Lib.hid hfl
    clear h h1 h3 hF hl hfl
    go_enter Try.func16, Try.ntmps16
    go_wp2_with fail
    refine named ?_
    intro W hW
    obtain ⟨b0, b1, hbW, hsz⟩ := boxes2 hW
    clear hW
    refine (HCK.out W (HX.out.below hbW)).mono ?_
    rintro e w1 ⟨rfl, hb1⟩
    have hB1 := hbW.trans (hb1.mono (by omega))
    have c0 := b0.below hb1 (by omega)
    have c1 := b1.below hb1 (by omega)
    have hx1 := (HX.out.below hbW).below hb1
    have hs1 := hb1.size
    obtain ⟨r0, r1, r2, r3⟩ := c0.c4
    have hz1 : w.heap.size + 2 ≤ w1.heap.size := by omega
    clear hb1 hbW b0 b1
    go_wp2_with (go_at_call 18; refine (HM.out _).mono ?_; rintro e w' ⟨rfl, rfl⟩)
    go_loopw [8, 9, 10] (fun i _ _ wr => ∃ (j : Nat) (B : Option Addr) (d : Nat), i = .int .i64 (j : Int) ∧ (j : Int) ≤ k ∧ Bk wr w.heap.size 24 #[.int .i64 f.C, .slice B f.xs.length d, .int .i64 f.R, .int .i64 (f.T + (j : Int))] ∧
        Bk wr (w.heap.size + 1) 24 #[.int .i64 0, .slice none 0 0, .int .i64 0, .int .i64 0] ∧ SlArg wr B (fadeN b j f.xs) d ∧ (B = A ∨ ∀ a, B = some a → w.heap.size + 2 ≤ a.block) ∧ Below w.heap.size w wr ∧ w.heap.size + 2 ≤ wr.heap.size) (fun i _ _ _ => (k - intOf i).toNat)
    case atStart => exact ⟨0, A, c, rfl, h2, by have := c0; simpa using this, c1, hx1, .inl rfl, hB1, hz1⟩
    case round =>
      obtain ⟨j, B, d, rfl, hjk, d0, d1', hsj, hav, hbj, hszj⟩ := hrel
      clear r0 r1 r2 r3
      obtain ⟨⟨r0, r1, r2, r3⟩, f0, f1, f2, f3⟩ := d0.all4
      have havq : ∀ q, w.heap.size ≤ q → q ≤ w.heap.size + 1 → 0 < f.xs.length → ∀ a, B = some a → a.block ≠ q := fun q hq hq2 hl a ha => by
        rcases hav with h | h
        · exact HX.out.old (g := q) hq hl a (by rw [← h]; exact ha)
        · have := h a ha; omega
      have HAVQ := Lib.hid havq
      by_cases hlt : (j : Int) < k
      · have hst := often_step HH.out (j := (j : Int)) (by omega) hlt
        rw [Int.toNat_natCast] at hst
        have hfc := rfac_any ⟨f.C, fadeN b j f.xs, f.R, f.T + (j : Int)⟩ B d b wr hsj
        rw [hst.1, hst.2] at hfc
        unfold facV at hfc
        dsimp only at hfc
        rw [HFL.out j] at hfc
        have HFC := Lib.hid hfc
        have D0 := Lib.hid d0; have D1 := Lib.hid d1'; have HB := Lib.hid hbj; have HAV := Lib.hid hav
        clear hfc hst d0 d1' hbj hav hsj havq
        go_wp2_with fail
        refine HFC.out.mono ?_
        clear r0 r1 r2 r3 f0 f1 f2 f3
        rintro e w2 ⟨⟨v, rfl, A2, c2, rfl, hs2, hav2⟩, hb2⟩
        unfold facV
        rw [HFL.out]
        have e0 := D0.out.below hb2 (by omega)
        have e1 := D1.out.below hb2 (by omega)
        have hbw2 := HB.out.trans (hb2.mono (by omega))
        have hsz2 := hb2.size
        obtain ⟨⟨r0, r1, r2, r3⟩, f0, f1, f2, f3⟩ := e0.all4
        have hq0 : w.heap.size < w2.heap.size := by omega
        go_wp2
        go_roundw
        case rel =>
          obtain ⟨x5, y5, z5⟩ := fac_box e0 (.int .i64 f.C) (.slice A2 f.xs.length c2) (.int .i64 f.R) (.int .i64 (f.T + ((j : Int) + 1)))
          have hsz4 : ∀ (W : World) (a : Addr) (u : Value), (W.setCell a u).heap.size = W.heap.size := fun W a u => by simp [World.setCell]
          refine ⟨j + 1, A2, c2, by go_num, by omega, x5.alloc _, (bk_stored4 e1 (by omega) _ _ _ _).alloc _, (z5 _ _ _ hs2 (fun hl a ha => ?_)).below ((Below.refl _ _).alloc (Nat.le_refl _) _), ?_, (y5 _ _ hbw2 (Nat.le_refl _)).alloc (by unfold stored4; rw [hsz4, hsz4, hsz4, hsz4]; exact Nat.le_of_lt hq0) _, by rw [World.size_alloc, hsz4, hsz4, hsz4, hsz4]; omega⟩
          · rw [HFL.out] at hl
            rcases hav2 with h | h
            · exact HAVQ.out _ (Nat.le_refl _) (by omega) hl a (by rw [← h]; exact ha)
            · have := h a ha; omega
          · rcases hav2 with h | h
            · rcases HAV.out with h' | h'
              · exact .inl (h.trans h')
              · exact .inr (fun a ha => h' a (by rw [← h]; exact ha))
            · exact .inr (fun a ha => by have := h a ha; omega)
        case measure => simp [intOf]; omega
      · obtain rfl : (j : Int) = k := by omega
        clear r0 r1 r2 r3 f0 f1 f2 f3
        obtain ⟨r0, r1, r2, r3⟩ := d0.c4
        obtain ⟨⟨s0, s1, s2, s3⟩, f0, f1, f2, f3⟩ := d1'.all4
        go_wp2
        obtain ⟨x5, y5, z5⟩ := fac_box d1' (.int .i64 f.C) (.slice B f.xs.length d) (.int .i64 f.R) (.int .i64 (f.T + (j : Int)))
        refine ret_fac2 Try.results16 rfl rfl x5 rfl ⟨⟨_, rfl, B, d, ?_, z5 _ _ _ ?_ (fun hl a ha => ?_), ?_⟩, y5 _ _ hbj (by omega)⟩
        · dsimp only; rw [HFL.out]; rfl
        · exact hsj
        · exact HAVQ.out _ (by omega) (Nat.le_refl _) (by dsimp only at hl; rw [HFL.out] at hl; exact hl) a ha
        · rcases hav with h | h
          · exact .inl h
          · exact .inr (fun a ha => by have := h a ha; omega)
  · have hF : oftenF f b k = Fct.zero := by unfold oftenF; rw [if_neg h]
    rw [hF]
    have hcases : (f.ok = false ∧ oftenE f b k = 1) ∨ (f.ok = true ∧ decide (k < 0) = true ∧ oftenE f b k = 1) ∨ (f.ok = true ∧ decide (k < 0) = false ∧ mayS b = false ∧ oftenE f b k = 12) ∨ (f.ok = true ∧ decide (k < 0) = false ∧ mayS b = true ∧ decide (4096 - f.T < k) = true ∧ oftenE f b k = 6 ∧ 0 ≤ f.T ∧ f.T ≤ 4096) := by
      unfold oftenE at h ⊢
      cases h1 : f.ok
      · exact .inl ⟨rfl, if_pos (.inl rfl)⟩
      · right
        have hl := ok_len h1
        by_cases h2 : k < 0
        · exact .inl ⟨rfl, decide_eq_true h2, if_pos (.inr h2)⟩
        · right
          have hno : ¬ (f.ok = false ∨ k < 0) := by rw [h1]; simp; omega
          rw [h1] at hno h
          rw [if_neg hno] at h ⊢
          cases h3 : mayS b
          · exact .inl ⟨rfl, decide_eq_false h2, rfl, if_pos rfl⟩
          · right
            rw [h3, if_neg (by decide)] at h
            rw [if_neg (by decide)]
            by_cases h4 : 4096 - f.T < k
            · exact ⟨rfl, decide_eq_false h2, rfl, decide_eq_true h4, if_pos h4, hl.2.2.2.2.2.1, hl.2.2.2.2.2.2.1⟩
            · rw [if_neg h4] at h; exact absurd rfl h
    clear h hF
    rcases hcases with ⟨h1, hE⟩ | ⟨h1, h2, hE⟩ | ⟨h1, h2, h3, hE⟩ | ⟨h1, h2, h3, h4, hE, hT0, hT1⟩
    all_goals
      rw [hE]
      rw [show checkS f.C f.xs f.R f.T = _ from h1] at HCK
      try rw [h3] at HM
      clear h1 hE
      go_enter Try.func16, Try.ntmps16
      go_wp2_with fail
      refine named ?_
      intro W hW
      obtain ⟨b0, b1, hbW, hsz⟩ := boxes2 hW
      clear hW
      refine (HCK.out W (HX.out.below hbW)).mono ?_
      rintro e w1 ⟨rfl, hb1⟩
      have hB1 := hbW.trans (hb1.mono (by omega))
      have c0 := b0.below hb1 (by omega)
      have c1 := b1.below hb1 (by omega)
      obtain ⟨r0, r1, r2, r3⟩ := c0.c4
      obtain ⟨⟨s0, s1, s2, s3⟩, f0, f1, f2, f3⟩ := c1.all4
      clear hb1 hbW b0 b1
      go_wp2_with (go_at_call 18; refine (HM.out _).mono ?_; rintro e w' ⟨rfl, rfl⟩)
      obtain ⟨x5, y5, z5⟩ := fac_box c1 (.int .i64 0) (.slice none 0 0) (.int .i64 0) (.int .i64 0)
      exact ret_fac2 Try.results16 rfl rfl x5 rfl ⟨⟨_, rfl, facB_zero _ _ _⟩, y5 _ _ hB1 (by omega)⟩

end Go.Proofs.Ytlkgkgnkmjbnjaa
