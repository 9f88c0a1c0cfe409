/- Fading by the numbers of a list, part by part, and by one number often: in plain lists. -/
import Derived.Test.YtlkgkgnkmjbnjaaDj
namespace Lev

theorem oftenF_ok {f : Fct} {b : Nat} (h : oftenE f b 1 = 0) : (oftenF f b 1).ok = true ∧ (oftenF f b 1).T = f.T + 1 := by
  obtain ⟨h1, h2, h3, h4⟩ := oftenE_ok.1 h
  have hl := check_len (show checkS f.C f.xs f.R f.T = true from h1)
  unfold oftenF
  rw [if_pos h]
  exact ⟨fade_check (T' := f.T + 1) (show checkS f.C f.xs f.R f.T = true from h1) h3 (by have := hl.2.2.2.2.2.1; omega) (by omega), rfl⟩

theorem allG_cons (f : Fct) (b : Nat) (l : List Nat) : allG f (b :: l) = if oftenE f b 1 = 0 then ((allG (oftenF f b 1) l).1, (allG (oftenF f b 1) l).2.1, (allG (oftenF f b 1) l).2.2 + 1) else (f, oftenE f b 1, 0) := rfl
theorem allG_ok {f : Fct} {l : List Nat} (hf : f.ok = true) (h : (allG f l).2.1 = 0) : (allG f l).1.ok = true ∧ (allG f l).2.2 = l.length ∧ f.T + l.length ≤ 4096 := by
  induction l generalizing f with
  | nil =>
    have hl := ok_len hf
    exact ⟨hf, rfl, by simpa using hl.2.2.2.2.2.2.1⟩
  | cons b l ih =>
    rw [allG_cons] at h ⊢
    by_cases hE : oftenE f b 1 = 0
    · rw [if_pos hE] at h ⊢
      obtain ⟨k1, k2⟩ := oftenF_ok hE
      obtain ⟨m1, m2, m3⟩ := ih k1 h
      refine ⟨m1, by rw [m2, List.length_cons], ?_⟩
      rw [k2] at m3
      rw [List.length_cons]; omega
    · rw [if_neg hE] at h; exact absurd h hE
theorem allG_append {f : Fct} {l m : List Nat} (h : (allG f (l ++ m)).2.1 = 0) : (allG f l).2.1 = 0 ∧ (allG (allG f l).1 m).2.1 = 0 ∧ (allG (allG f l).1 m).1 = (allG f (l ++ m)).1 := by
  induction l generalizing f with
  | nil => exact ⟨rfl, h, rfl⟩
  | cons b l ih =>
    rw [List.cons_append, allG_cons] at h
    rw [List.cons_append, allG_cons f b l, allG_cons f b (l ++ m)]
    by_cases hE : oftenE f b 1 = 0
    · rw [if_pos hE] at h
      rw [if_pos hE, if_pos hE]
      exact ih h
    · rw [if_neg hE] at h; exact absurd h hE

theorem fadeN_inner (b n : Nat) (xs : List Nat) : fadeN b n (fadeL b xs) = fadeN b (n + 1) xs := by
  induction n with
  | zero => rfl
  | succ n ih => unfold fadeN; rw [ih]
theorem allG_same {f : Fct} {b n : Nat} (hf : f.ok = true) (hb : mayS b = true) (hT : f.T + n ≤ 4096) : allG f (List.replicate n b) = (⟨f.C, fadeN b n f.xs, f.R, f.T + n⟩, 0, n) := by
  induction n generalizing f with
  | zero => simp [allG, fadeN]
  | succ n ih =>
    rw [List.replicate_succ]
    have hE : oftenE f b 1 = 0 := oftenE_ok.2 ⟨hf, by omega, hb, by omega⟩
    obtain ⟨k1, k2⟩ := oftenF_ok hE
    have hF : oftenF f b 1 = ⟨f.C, fadeL b f.xs, f.R, f.T + 1⟩ := by unfold oftenF; rw [if_pos hE]; rfl
    rw [allG_cons, if_pos hE, ih k1 (by rw [k2]; omega), hF]
    dsimp only
    rw [fadeN_inner]
    have e : f.T + 1 + (n : Int) = f.T + ((n + 1 : Nat) : Int) := by omega
    rw [e]

/-- All that the law of FadeAll wants of plain numbers and lists. -/
theorem fadeAll_law {f : Fct} {l : List Nat} (h : (allS f l).2.1 = 0) {cut : Nat} (hc : cut ≤ l.length) :
    (allS f (l.take cut)).2.1 = 0 ∧ (allS f (l.take cut)).2.2 = cut ∧ (allS (allS f (l.take cut)).1 (l.drop cut)).2.1 = 0 ∧ (allS (allS f (l.take cut)).1 (l.drop cut)).2.2 = l.length - cut ∧
    (allS (allS f (l.take cut)).1 (l.drop cut)).1 = (allS f l).1 ∧
    (∀ b m, l = b :: m → allS f (List.replicate l.length b) = (oftenF f b l.length, 0, l.length) ∧ oftenE f b l.length = 0) := by
  have hf : f.ok = true := by
    cases hok : f.ok
    · unfold allS at h; rw [if_pos hok] at h; exact absurd h (by decide)
    · rfl
  have hS : ∀ g : Fct, g.ok = true → ∀ m, allS g m = allG g m := fun g hg m => by unfold allS; rw [if_neg (by rw [hg]; decide)]
  rw [hS f hf] at h
  have h' := h
  rw [← List.take_append_drop cut l] at h'
  obtain ⟨a1, a2, a3⟩ := allG_append h'
  obtain ⟨b1, b2, b3⟩ := allG_ok hf a1
  obtain ⟨c1, c2, c3⟩ := allG_ok b1 a2
  obtain ⟨d1, d2, d3⟩ := allG_ok hf h
  rw [hS f hf (l.take cut), hS _ b1, hS f hf l]
  refine ⟨a1, by rw [b2, List.length_take]; omega, a2, by rw [c2, List.length_drop], by rw [a3, List.take_append_drop], fun b m e => ?_⟩
  have hb : mayS b = true := by
    rw [e] at h
    rw [allG_cons] at h
    by_cases hE : oftenE f b 1 = 0
    · exact (oftenE_ok.1 hE).2.2.1
    · rw [if_neg hE] at h; exact absurd h hE
  have hE : oftenE f b l.length = 0 := oftenE_ok.2 ⟨hf, by omega, hb, by omega⟩
  refine ⟨?_, hE⟩
  rw [hS f hf, allG_same hf hb d3]
  unfold oftenF
  rw [if_pos hE, Int.toNat_natCast]

end Lev
