/- Contracts of package fade: Often, Factor. -/
import Derived.Test.YtdpmpfbbfknlmaaDa9
namespace Go.Proofs.Ytdpmpfbbfknlmaa
open Go.RowKit Go.Shelf Lev

set_option maxRecDepth 100000 in
set_option maxHeartbeats 2000000 in
theorem often_ok (C : Int) (A : Option Addr) (xs : List Nat) (c : Nat) (R T : Int) (b : Nat) (k : Nat) (w : World) (hx : SlArg w A xs c) (hc : checkS C xs R T = true) (hb : mayS b = true) (hk : (k : Int) ≤ 4096 - T) :
    Calls Try.prog 10 #[facV C A xs.length c R T, .float .f64 b, .int .i64 (k : Int)] w fun e w' => (∃ v, e = .returned (.tuple #[v, .int .i64 0]) ∧ FacB w.heap.size A w' v ⟨C, fadeN b k xs, R, T + k⟩) ∧ Below w.heap.size w w' := by
  have hl := check_len hc
  obtain ⟨hl1, hl2, hl3, hl4, hl5, hl6, hl7, hl8, hl9⟩ := hl
  have hpos : 0 < xs.length := by
    have := st_all (C + 1).toNat
    have h3 : 2 ≤ (C + 1).toNat := by omega
    have := Nat.mul_le_mul h3 h3
    omega
  obtain ⟨ba, oa, hA, hba, _⟩ := hx.reads.2 hpos
  have hck := fun W hW => check_any C A xs c R T W hW
  rw [hc] at hck
  have HCK := Lib.hid hck; clear hck
  have HC := Lib.hid hc
  have HM := Lib.hid hb
  have HX := Lib.hid hx
  have HA := Lib.hid hA
  have hfin : ∀ j, ∀ x ∈ fadeN b j xs, fin x := fun j x hx0 => small_fin (fadeN_small (k := j) hb (fun y hy => check_small' hc hy) x hx0)
  have HFIN := Lib.hid hfin
  have hck0 : decide ((k : Int) < 0) = false := decide_eq_false (by omega)
  have hkf : decide (4096 - T < (k : Int)) = false := decide_eq_false (by omega)
  have hk2 : (k : Int) ≤ 4096 := by omega
  have HK := Lib.hid hk
  clear hl3 hl9 hc hb hx hA hfin hk
  unfold facV
  go_enter Try.func10, Try.ntmps10
  go_wp2_with fail
  obtain ⟨W, hW⟩ : ∃ W, W = ((w.alloc (.cells #[.int .i64 C, .slice A xs.length c, .int .i64 R, .int .i64 T] 24)).alloc (.cells #[.float .f64 b] 25)).alloc (.cells #[.int .i64 0, .slice none 0 0, .int .i64 0, .int .i64 0] 24) := ⟨_, rfl⟩
  rw [← hW]
  have b0 : Bk W w.heap.size 24 #[.int .i64 C, .slice A xs.length c, .int .i64 R, .int .i64 T] := by rw [hW]; exact ((Bk.new _ _ _).alloc _).alloc _
  have b1 : Bk W (w.heap.size + 1) 25 #[.float .f64 b] := by rw [hW]; have := (Bk.new (w.alloc (.cells #[.int .i64 C, .slice A xs.length c, .int .i64 R, .int .i64 T] 24)) 25 #[.float .f64 b]).alloc (.cells #[.int .i64 0, .slice none 0 0, .int .i64 0, .int .i64 0] 24); rwa [World.size_alloc] at this
  have b2 : Bk W (w.heap.size + 2) 24 #[.int .i64 0, .slice none 0 0, .int .i64 0, .int .i64 0] := by rw [hW]; have := Bk.new ((w.alloc (.cells #[.int .i64 C, .slice A xs.length c, .int .i64 R, .int .i64 T] 24)).alloc (.cells #[.float .f64 b] 25)) 24 #[.int .i64 0, .slice none 0 0, .int .i64 0, .int .i64 0]; rwa [World.size_alloc, World.size_alloc] at this
  have hbW : Below w.heap.size w W := by rw [hW]; exact (((Below.refl _ _).alloc (Nat.le_refl _) _).alloc (by simp) _).alloc (by simp; omega) _
  have hszW : W.heap.size = w.heap.size + 3 := by rw [hW]; simp
  have hxW : SlArg W A xs c := HX.out.below hbW
  clear hW
  refine (HCK.out W hxW).mono ?_
  rintro e w1 ⟨rfl, hb1⟩
  have c0 := b0.below hb1 (by omega)
  have c1 := b1.below hb1 (by omega)
  have c2 := b2.below hb1 (by omega)
  have hx1 := hxW.below hb1
  have hbw1 : Below w.heap.size w w1 := hbW.trans (hb1.mono (by omega))
  have hsz1 := hb1.size
  have k1 := c1.cell 0
  have k3 := c0.cell 3
  have HM1 := Lib.hid (may_any b); rw [HM.out] at HM1
  have KX := Lib.hid hx1; have KB := Lib.hid hbw1; have KS := Lib.hid hsz1; have KW := Lib.hid hszW
  have C0 := Lib.hid c0; have C1 := Lib.hid c1; have C2 := Lib.hid c2
  clear hxW hb1 hbW hx1 hbw1 b0 b1 b2 c0 c1 c2 hsz1 hszW
  simp at k1 k3
  go_wp2_with (go_at_call 12; refine (HM1.out _).mono ?_; rintro e w' ⟨rfl, rfl⟩)
  go_loopw [30] (fun i wr => ∃ (j : Nat) (A' : Option Addr) (c' : Nat), j ≤ k ∧ i = .int .i64 (j : Int) ∧ Bk wr w.heap.size 24 #[.int .i64 C, .slice A' xs.length c', .int .i64 R, .int .i64 T] ∧ Bk wr (w.heap.size + 1) 25 #[.float .f64 b] ∧
      Bk wr (w.heap.size + 2) 24 #[.int .i64 0, .slice none 0 0, .int .i64 0, .int .i64 0] ∧ SlArg wr A' (fadeN b j xs) c' ∧ (A' = A ∨ ∀ a, A' = some a → w.heap.size + 3 ≤ a.block) ∧ Below w.heap.size w wr ∧ w.heap.size + 3 ≤ wr.heap.size) (fun i _ => k - (intOf i).toNat)
  case atStart => exact ⟨0, A, c, Nat.zero_le _, rfl, C0.out, C1.out, C2.out, KX.out, .inl rfl, KB.out, by have := KS.out; have := KW.out; omega⟩
  case round =>
    obtain ⟨j, A', c', hj, rfl, d0, d1, d2, hxj, hav, hbj, hszj⟩ := hrel
    clear k1 k3
    by_cases hlt : (j : Int) < (k : Int)
    · have k1 := d0.cell 1
      have hxl : (fadeN b j xs).length = xs.length := fadeN_length b j xs
      have he := each_any A' (fadeN b j xs) c' b (w.heap.size + 1) wr hxj (HFIN.out j) HM.out (by rw [hxl]; omega) (d1.cell 0) d1.lt
      rw [hxl] at he
      have HE := Lib.hid he
      have D0 := Lib.hid d0; have D1 := Lib.hid d1; have D2 := Lib.hid d2; have HXJ := Lib.hid hxj; have HB := Lib.hid hbj; have HXL := Lib.hid hxl; have HAV := Lib.hid hav
      have HSZ := Lib.hid hszj
      have hmf : ∀ (fn : Fn) (first cap : Array Value) (w : World), (Instr.makeFunc fn first cap).run Try.prog w = .ok (.func fn first cap) w := fun _ _ _ _ => rfl
      clear he d0 d1 d2 hxj hbj hxl hav hszj
      simp at k1
      go_wp2_with fail
      refine HE.out.mono ?_
      rintro e w2 ⟨⟨v, rfl, A2, c2, rfl, hs2, ha2⟩, hb2⟩
      have e0 := D0.out.below hb2 (by have := HSZ.out; omega)
      have e1 := D1.out.below hb2 (by have := HSZ.out; omega)
      have e2 := D2.out.below hb2 (by have := HSZ.out; omega)
      have q1 := e0.cell 1
      have q2 := e0.frozen 1
      have hl2 : (fadeL b (fadeN b j xs)).length = xs.length := by rw [fadeL_length]; exact HXL.out
      rw [hl2]
      have E0 := Lib.hid e0; have E1 := Lib.hid e1; have E2 := Lib.hid e2; have HS2 := Lib.hid hs2; have HA2 := Lib.hid ha2; have HB2 := Lib.hid hb2
      clear e0 e1 e2 hs2 ha2 hb2 hl2 k1
      simp at q1
      go_wp2
      go_roundw
      case rel =>
        have hne : 0 < (fadeL b (fadeN b j xs)).length → ∀ a, A2 = some a → a.block ≠ w.heap.size := fun _ a ha => by have := HA2.out a ha; have := HSZ.out; omega
        refine ⟨j + 1, A2, c2, by omega, by go_num, ?_, E1.out.other (p := ⟨w.heap.size, 1, none⟩) (by simp) _, E2.out.other (p := ⟨w.heap.size, 1, none⟩) (by simp) _, HS2.out.setCell (p := ⟨w.heap.size, 1, none⟩) hne _, .inr (fun a ha => by have := HA2.out a ha; have := HSZ.out; omega), ?_, ?_⟩
        · have := E0.out.set 1 (.slice A2 xs.length c2)
          simpa using this
        · exact (HB.out.trans (HB2.out.mono (by have := HSZ.out; omega))).setCell (p := ⟨w.heap.size, 1, none⟩) (Nat.le_refl _) _
        · have := HB2.out.size; have := HSZ.out; simp [World.setCell]; omega
      case measure => simp [intOf]; omega
    · obtain rfl : j = k := by omega
      have k0 := d0.cell 0; have k1 := d0.cell 1; have k2 := d0.cell 2; have k3 := d0.cell 3
      have f0 := d0.frozen 3
      have r0 := d2.cell 0; have r1 := d2.cell 1; have r2 := d2.cell 2; have r3 := d2.cell 3
      have g0 := d2.frozen 0; have g1 := d2.frozen 1; have g2 := d2.frozen 2; have g3 := d2.frozen 3
      have D0 := Lib.hid d0; have D1 := Lib.hid d1; have D2 := Lib.hid d2; have HXJ := Lib.hid hxj; have HB := Lib.hid hbj; have HAV := Lib.hid hav
      have HSZ := Lib.hid hszj
      clear d0 d1 d2 hxj hbj hav hszj
      simp at k0 k1 k2 k3 r0 r1 r2 r3
      go_wp2
      have x1 : Bk (wr.setCell ⟨w.heap.size, 3, none⟩ (.int .i64 (T + (j : Int)))) (w.heap.size + 1 + 1) 24 #[.int .i64 0, .slice none 0 0, .int .i64 0, .int .i64 0] := D2.out.other (p := ⟨w.heap.size, 3, none⟩) (by simp) _
      obtain ⟨x5, y5, z5⟩ := fac_box x1 (.int .i64 C) (.slice A' xs.length c') (.int .i64 R) (.int .i64 (T + (j : Int)))
      have hbf := y5 _ _ (HB.out.setCell (p := ⟨w.heap.size, 3, none⟩) (Nat.le_refl _) _) (by omega)
      have hav : ∀ g, (g = w.heap.size ∨ g = w.heap.size + 1 + 1) → ∀ a, A' = some a → a.block ≠ g := fun g hg a ha => by
        rcases HAV.out with h | h
        · rw [h, HA.out] at ha; cases ha; show ba ≠ g; omega
        · have := h a ha; omega
      have hxf := z5 _ _ _ (HXJ.out.setCell (p := ⟨w.heap.size, 3, none⟩) (fun _ => hav _ (.inl rfl)) (.int .i64 (T + (j : Int)))) (fun _ => hav _ (.inr rfl))
      unfold stored4 at x5 hbf hxf
      generalize ((((wr.setCell ⟨w.heap.size, 3, none⟩ (.int .i64 (T + (j : Int)))).setCell ⟨w.heap.size + 1 + 1, 0, none⟩ (.int .i64 C)).setCell ⟨w.heap.size + 1 + 1, 1, none⟩ (.slice A' xs.length c')).setCell ⟨w.heap.size + 1 + 1, 2, none⟩ (.int .i64 R)).setCell ⟨w.heap.size + 1 + 1, 3, none⟩ (.int .i64 (T + (j : Int))) = wf at *
      have s0 := x5.cell 0; have s1 := x5.cell 1; have s2 := x5.cell 2; have s3 := x5.cell 3
      simp at s0 s1 s2 s3
      refine bodyPost_ret (v := .tuple #[facV C A' xs.length c' R (T + (j : Int)), .int .i64 0]) (by simp [results, Try.results10, go_sem, facV, s0, s1, s2, s3]) rfl ?_
      refine ⟨⟨_, rfl, A', c', by rw [fadeN_length], hxf, ?_⟩, hbf⟩
      rcases HAV.out with h | h
      · exact .inl h
      · exact .inr (fun a ha => by have := h a ha; omega)

end Go.Proofs.Ytdpmpfbbfknlmaa
