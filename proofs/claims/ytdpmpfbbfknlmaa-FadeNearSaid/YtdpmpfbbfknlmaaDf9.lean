/- Contracts of package fade: Often, Factor, whole. -/
import Derived.Test.YtdpmpfbbfknlmaaDe9
namespace Go.Proofs.Ytdpmpfbbfknlmaa
open Go.RowKit Go.Shelf Lev

theorem often_any (f : Fct) (A : Option Addr) (c : Nat) (b : Nat) (k : Int) (w : World) (hx : SlArg w A f.xs c) :
    Calls Try.prog 10 #[facV f.C A f.xs.length c f.R f.T, .float .f64 b, .int .i64 k] w fun e w' => (∃ v, e = .returned (.tuple #[v, .int .i64 (oftenE f b k)]) ∧ FacB w.heap.size A w' v (oftenF f b k)) ∧ Below w.heap.size w w' := by
  by_cases hE : oftenE f b k = 0
  · obtain ⟨h1, h2, h3, h4⟩ := oftenE_ok.1 hE
    have hF : oftenF f b k = ⟨f.C, fadeN b k.toNat f.xs, f.R, f.T + k⟩ := by unfold oftenF; rw [if_pos hE]
    rw [hE, hF]
    obtain ⟨n, rfl⟩ := Int.eq_ofNat_of_zero_le h2
    rw [Int.toNat_natCast]
    exact often_ok f.C A f.xs c f.R f.T b n w hx h1 h3 h4
  · have hF : oftenF f b k = Fct.zero := by unfold oftenF; rw [if_neg hE]
    rw [hF]
    by_cases h1 : f.ok = true
    · by_cases h2 : k < 0
      · have e : oftenE f b k = 1 := by unfold oftenE; rw [if_pos (.inr h2)]
        rw [e]
        exact (often_neg f.C A f.xs c f.R f.T b k w hx h1 h2).mono fun _ _ ⟨he, hb⟩ => ⟨⟨_, he, facB_zero _ _ _⟩, hb⟩
      · have h12 : ¬ (f.ok = false ∨ k < 0) := by rw [h1]; simp; omega
        by_cases h3 : mayS b = true
        · have h4 : 4096 - f.T < k := by
            rcases Int.lt_or_le (4096 - f.T) k with h | h
            · exact h
            · exact absurd (oftenE_ok.2 ⟨h1, by omega, h3, h⟩) hE
          have e : oftenE f b k = 6 := by unfold oftenE; rw [if_neg h12, if_neg (by rw [h3]; decide), if_pos h4]
          rw [e]
          exact (often_full f.C A f.xs c f.R f.T b k w hx h1 (by omega) h3 h4).mono fun _ _ ⟨he, hb⟩ => ⟨⟨_, he, facB_zero _ _ _⟩, hb⟩
        · have h3' : mayS b = false := by simpa using h3
          have e : oftenE f b k = 12 := by unfold oftenE; rw [if_neg h12, if_pos h3']
          rw [e]
          exact (often_may f.C A f.xs c f.R f.T b k w hx h1 (by omega) h3').mono fun _ _ ⟨he, hb⟩ => ⟨⟨_, he, facB_zero _ _ _⟩, hb⟩
    · have h1' : f.ok = false := by simpa using h1
      have e : oftenE f b k = 1 := by unfold oftenE; rw [if_pos (.inl h1')]
      rw [e]
      exact (often_bad f.C A f.xs c f.R f.T b k w hx h1').mono fun _ _ ⟨he, hb⟩ => ⟨⟨_, he, facB_zero _ _ _⟩, hb⟩

set_option maxRecDepth 100000 in
set_option maxHeartbeats 1000000 in
theorem factor_any (f : Fct) (A : Option Addr) (c : Nat) (b : Nat) (w : World) (hx : SlArg w A f.xs c) :
    Calls Try.prog 5 #[facV f.C A f.xs.length c f.R f.T, .float .f64 b] w fun e w' => (∃ v, e = .returned (.tuple #[v, .int .i64 (oftenE f b 1)]) ∧ FacB w.heap.size A w' v (oftenF f b 1)) ∧ Below w.heap.size w w' := by
  have HO := Lib.hid (fun W hW => often_any f A c b 1 W hW)
  have HX := Lib.hid hx
  clear hx
  unfold facV at HO
  unfold facV
  have hlen := oftenF_len f b 1
  generalize oftenE f b 1 = E at *
  generalize oftenF f b 1 = F at *
  go_enter Try.func5, Try.ntmps5
  go_wp2_with fail
  obtain ⟨W, hW⟩ : ∃ W, W = (w.alloc (.cells #[.int .i64 f.C, .slice A f.xs.length c, .int .i64 f.R, .int .i64 f.T] 24)).alloc (.cells #[.int .i64 0, .slice none 0 0, .int .i64 0, .int .i64 0] 24) := ⟨_, rfl⟩
  rw [← hW]
  have b2 : Bk W (w.heap.size + 1) 24 #[.int .i64 0, .slice none 0 0, .int .i64 0, .int .i64 0] := by rw [hW]; have := Bk.new (w.alloc (.cells #[.int .i64 f.C, .slice A f.xs.length c, .int .i64 f.R, .int .i64 f.T] 24)) 24 #[.int .i64 0, .slice none 0 0, .int .i64 0, .int .i64 0]; rwa [World.size_alloc] at this
  have hbW : Below w.heap.size w W := by rw [hW]; exact ((Below.refl _ _).alloc (Nat.le_refl _) _).alloc (by simp) _
  have hszW : W.heap.size = w.heap.size + 2 := by rw [hW]; simp
  have hxW := HX.out.below hbW
  clear hW
  refine (HO.out W hxW).mono ?_
  rintro e w1 ⟨⟨v, rfl, A2, c2, rfl, hs2, hav⟩, hb1⟩
  unfold facV
  have d2 := b2.below hb1 (by omega)
  have hbw1 : Below w.heap.size w w1 := hbW.trans (hb1.mono (by omega))
  have r0 := d2.cell 0; have r1 := d2.cell 1; have r2 := d2.cell 2; have r3 := d2.cell 3
  have g0 := d2.frozen 0; have g1 := d2.frozen 1; have g2 := d2.frozen 2; have g3 := d2.frozen 3
  have KB := Lib.hid hbw1; have D2 := Lib.hid d2; have HS := Lib.hid hs2; have HAV := Lib.hid hav; have KW := Lib.hid hszW
  clear b2 hbW hxW hb1 hbw1 d2 hs2 hav hszW
  simp at r0 r1 r2 r3
  go_wp2
  obtain ⟨x5, y5, z5⟩ := fac_box D2.out (.int .i64 F.C) (.slice A2 F.xs.length c2) (.int .i64 F.R) (.int .i64 F.T)
  have hbf := y5 _ _ KB.out (by omega)
  have hne : 0 < F.xs.length → ∀ a, A2 = some a → a.block ≠ w.heap.size + 1 := fun hl a ha => by
    rcases HAV.out with h | h
    · obtain ⟨ba, oa, hA, hba, _⟩ := HX.out.reads.2 (by omega)
      rw [h, hA] at ha; cases ha; show ba ≠ w.heap.size + 1; omega
    · have := h a ha; have := KW.out; omega
  have hxf := z5 _ _ _ HS.out hne
  unfold stored4 at x5 hbf hxf
  generalize (((w1.setCell ⟨w.heap.size + 1, 0, none⟩ (.int .i64 F.C)).setCell ⟨w.heap.size + 1, 1, none⟩ (.slice A2 F.xs.length c2)).setCell ⟨w.heap.size + 1, 2, none⟩ (.int .i64 F.R)).setCell ⟨w.heap.size + 1, 3, none⟩ (.int .i64 F.T) = wf at *
  have s0 := x5.cell 0; have s1 := x5.cell 1; have s2 := x5.cell 2; have s3 := x5.cell 3
  simp at s0 s1 s2 s3
  refine bodyPost_ret (v := .tuple #[facV F.C A2 F.xs.length c2 F.R F.T, .int .i64 E]) (by simp [results, Try.results5, go_sem, facV, s0, s1, s2, s3]) rfl ?_
  refine ⟨⟨_, rfl, A2, c2, rfl, hxf, ?_⟩, hbf⟩
  rcases HAV.out with h | h
  · exact .inl h
  · exact .inr (fun a ha => by have := h a ha; have := KW.out; omega)

end Go.Proofs.Ytdpmpfbbfknlmaa
