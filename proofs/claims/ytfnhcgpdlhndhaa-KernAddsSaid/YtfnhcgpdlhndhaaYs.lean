/- The walk of KernAdds. -/
import Derived.Test.YtfnhcgpdlhndhaaYr
set_option linter.unusedVariables false
namespace Lev
theorem axF_len {q : Nat} {xs ys : List Nat} (h : axB q xs ys = true) : (axF q xs ys).length = xs.length := by unfold axF; rw [if_pos h]; simp
theorem axF_ge {q : Nat} {xs ys : List Nat} (h : axB q xs ys = true) {i : Nat} (hi : i < xs.length) : ge (axF q xs ys) i = axT q xs ys i := by
  unfold axF ge; rw [if_pos h, List.getElem?_map, List.getElem?_range hi]; rfl
theorem axT_fin {q : Nat} {xs ys : List Nat} (h0 : axB q xs ys = true) {i : Nat} (hi : i < xs.length) : fin (axT q xs ys i) := by
  have h := h0
  unfold axB at h
  rw [Bool.and_eq_true] at h
  obtain ⟨h1, hk⟩ := h
  obtain ⟨h1, h2, h3⟩ := fitS_iff.1 h1
  have hx := allIn_get h2 hi
  have hy := allIn_get h3 (k := i) (by omega)
  have hp := prod_in hk hx
  have hyb := (inS_bd hy).2
  exact (add_bd (B := pw 801) (inS_bd hy).1 hp.2.1 (by
    rw [show (801 : Int) = 800 + 1 from rfl, pw_double]
    have : pw 400 ≤ pw 800 := pw_le (by decide)
    have := hp.2.2.1
    grind) (rep_pw1 (by decide) (by decide))).2.1
end Lev
namespace Go.Proofs.Ytfnhcgpdlhndhaa
open Go.RowKit Go.Shelf Lev

theorem bk_new1 (w : World) (o : Obj) (t : TypeId) (cs : Array Value) : Bk ((w.alloc o).alloc (.cells cs t)) (w.heap.size + 1) t cs := by
  have := Bk.new (w.alloc o) t cs; rwa [World.size_alloc] at this
theorem bk_new2 (w : World) (o o2 : Obj) (t : TypeId) (cs : Array Value) : Bk (((w.alloc o).alloc o2).alloc (.cells cs t)) (w.heap.size + 1 + 1) t cs := by
  have := Bk.new ((w.alloc o).alloc o2) t cs; rwa [World.size_alloc, World.size_alloc] at this
theorem KeepD.pushB {w W W' : World} {L M O} (h : KeepD w W L M O) (hb : Below W.heap.size W W') {d : Dy} {A : Option Addr} {c : Nat} (hd : DyA W' d A c) :
    KeepD w (W'.alloc (.cells #[.bool d.neg, .slice A (nd d.n).length c, .int .i64 d.e] 30)) ((W'.heap.size, d, A, c) :: L) M O ∧ Below W.heap.size W (W'.alloc (.cells #[.bool d.neg, .slice A (nd d.n).length c, .int .i64 d.e] 30)) :=
  ⟨(h.call hb).push hd, hb.alloc hb.size _⟩
theorem KeepD.fillB {w W W' : World} {L M O} (h : KeepD w W L M O) (hb : Below W.heap.size W W') {g : Nat} (hz : OwnZ W.heap.size W' g) {d : Dy} {A : Option Addr} {c : Nat} (hd : DyA W' d A c) :
    KeepD w (stored3 W' g (.bool d.neg) (.slice A (nd d.n).length c) (.int .i64 d.e)) ((g, d, A, c) :: L) M O ∧ Below W.heap.size W (stored3 W' g (.bool d.neg) (.slice A (nd d.n).length c) (.int .i64 d.e)) :=
  ⟨h.fill hb hz hd, (dy_box hz.bk _ _ _).2.1 _ _ hb hz.ge⟩
theorem rg64 (x : Nat) : rg x < 18446744073709551616 := by have := rg_lt x; omega
theorem slPair {W : World} {g a b : Nat} (h : Bk W g 24 #[.float .f64 a, .float .f64 b]) (ha : a < 18446744073709551616) (hb : b < 18446744073709551616) : SlArg W (some ⟨g, 0, none⟩) [a, b] 2 :=
  slLit (xs := [a, b]) h (fun x hx => by
    rcases List.mem_cons.1 hx with rfl | hx
    · exact ha
    · rw [List.mem_singleton.1 hx]; exact hb) (by show 2 ≤ 9223372036854775807; decide)
theorem bk_drew {w : World} {g : Nat} {t : TypeId} {cs : Array Value} (h : Bk w g t cs) : Bk w.drew g t cs := h
theorem ownZ_of {B : Nat} {Wc w5 : World} {g : Nat} (hg : B ≤ g) (hbk : Bk Wc g 30 #[.bool false, .slice none 0 0, .int .i64 0]) (hb : Below Wc.heap.size Wc w5) : OwnZ B w5 g := ⟨hg, hbk.below hb hbk.lt⟩

theorem haveZ {P : Prop} {B : Nat} {Wc w5 : World} {g : Nat} (hg : B ≤ g) (hb : Below Wc.heap.size Wc w5) (hbk : Bk Wc g 30 #[.bool false, .slice none 0 0, .int .i64 0]) (k : OwnZ B w5 g → P) : P := k (ownZ_of hg hbk hb)

set_option maxRecDepth 100000 in
set_option maxHeartbeats 4000000 in
theorem kernAdds (q : Nat) (xs : List Nat) (A : Option Addr) (c : Nat) (ys : List Nat) (B : Option Addr) (d : Nat) (w : World) (hq : q < 18446744073709551616) (hx : SlArg w A xs c) (hy : SlArg w B ys d) :
    Calls Try.prog 4 #[.float .f64 q, .slice A xs.length c, .slice B ys.length d] w fun e w' => e = .returned (.bool true) ∧ Below w.heap.size w w' := by
  have hl63 : xs.length ≤ 9223372036854775807 := Nat.le_trans hx.cap hx.room
  have hl64 : ys.length ≤ 9223372036854775807 := Nat.le_trans hy.cap hy.room
  have HLV := Lib.hid (fun W => live05 W)
  by_cases h1 : (12 : Int) < (xs.length : Int) ∨ (12 : Int) < (ys.length : Int)
  · have h2 : (12 : Int) < (xs.length : Int) ∨ (¬ (12 : Int) < (xs.length : Int) ∧ (12 : Int) < (ys.length : Int)) := by omega
    have H2 := Lib.hid h2
    clear hx hy h1 h2
    rcases H2.out with h | ⟨h, h'⟩
    all_goals
      go_enter Try.func4, Try.ntmps4
      go_wp2_with fail
      refine (HLV.out w).mono ?_
      rintro e w' ⟨rfl, hb⟩
      have HB := Lib.hid hb
      clear hb
      go_wp2
      go_ret
      exact ⟨rfl, HB.out⟩
  · have hl : xs.length ≤ 12 := by omega
    have hl2 : ys.length ≤ 12 := by omega
    have n1 : ¬ (12 : Int) < (xs.length : Int) := by omega
    have n2 : ¬ (12 : Int) < (ys.length : Int) := by omega
    have K0 := Lib.hid (((KeepD.start w).more hx).more hy)
    have HAX := Lib.hid (kaxpy_any q hq A xs c B ys d w hx hy (by omega))
    clear h1
    cases hax : axB q xs ys
    · rw [hax] at HAX
      clear hx hy
      go_enter Try.func4, Try.ntmps4
      go_wp2_with fail
      refine HAX.out.mono ?_
      rintro e w1 ⟨⟨R1, m1, rfl, hs1⟩, hb1⟩
      have HB1 := Lib.hid hb1
      clear hb1 hs1
      go_wp2_with fail
      refine (HLV.out _).mono ?_
      rintro e w' ⟨rfl, hb⟩
      have HB := Lib.hid (Below.chain HB1.out hb)
      clear hb
      go_wp2
      go_ret
      exact ⟨rfl, HB.out⟩
    · rw [hax] at HAX
      have hq2 : inS q = true ∧ fitS xs ys = true := by
        have h := hax; unfold axB at h; rw [Bool.and_eq_true] at h; exact ⟨h.2, h.1⟩
      obtain ⟨e1, ax, ay⟩ := fitS_iff.1 hq2.2
      have fq : fin q := (inS_bd hq2.1).1
      have fx : ∀ i, i < xs.length → fin (ge xs i) := fun i hi => (inS_bd (allIn_get ax hi)).1
      have fy : ∀ i, i < xs.length → fin (ge ys i) := fun i hi => (inS_bd (allIn_get ay (k := i) (by omega))).1
      have hll : (axF q xs ys).length = xs.length := axF_len hax
      rw [hll] at HAX
      have HLAW := Lib.hid (fun i (hi : i < xs.length) => adds_law hax hi)
      have HFZ := Lib.hid (fun i (hi : i < xs.length) => axT_fin hax hi)
      have HGE := Lib.hid (fun i (hi : i < xs.length) => axF_ge hax hi)
      have HLL := Lib.hid hll
      have t1 : ((xs.length : Int) != (xs.length : Int)) = false := by simp
      have t2 : ((xs.length : Int) != (ys.length : Int)) = false := by rw [bne_eq_false_iff_eq]; omega
      have HE1 := Lib.hid e1; have HFX := Lib.hid fx; have HFY := Lib.hid fy; have HFQ := Lib.hid fq; have HQ := Lib.hid hq
      clear hx hy hax hq2 e1 ax ay fx fy fq hll
      go_enter Try.func4, Try.ntmps4
      go_wp2_with fail
      refine HAX.out.mono ?_
      rintro e w1 ⟨⟨R1, m1, rfl, hs1⟩, hb1⟩
      have K1 := Lib.hid ((K0.out.call hb1).more hs1)
      have hm63 : m1 ≤ 9223372036854775807 := hs1.room
      have hm64 : xs.length ≤ m1 := by have := hs1.cap; rwa [HLL.out] at this
      clear hb1 hs1
      go_wp2_with fail
      go_loopw [9] (fun iv wr => ∃ k : Nat, k ≤ xs.length ∧ iv = .int .i64 (k : Int) ∧ KeepD w wr [] [(R1, axF q xs ys, m1), (B, ys, d), (A, xs, c)] []) (fun iv _ => xs.length - (intOf iv).toNat)
      case atStart => exact ⟨0, Nat.zero_le _, rfl, K1.out⟩
      case round =>
        obtain ⟨k, hk, rfl, hK⟩ := hrel
        have KW := Lib.hid hK
        clear hK
        by_cases hlt : (k : Int) < (xs.length : Int)
        · have hkx : k < xs.length := by omega
          have hky : (k : Int) < (ys.length : Int) := by have := HE1.out; omega
          obtain ⟨bx, ox, hA, _, hcx⟩ := (KW.out.arg (.tail _ (.tail _ (.head _)))).reads.2 (by omega)
          obtain ⟨by_, oy, hB, _, hcy⟩ := (KW.out.arg (.tail _ (.head _))).reads.2 (by have := HE1.out; omega)
          obtain ⟨bl, ol, hL, _, hcl⟩ := (KW.out.arg (.head _)).reads.2 (by have := HLL.out; omega)
          subst hA hB hL
          have h64x : ge xs k < 18446744073709551616 := (KW.out.arg (.tail _ (.tail _ (.head _)))).reads.lt k
          have h64y : ge ys k < 18446744073709551616 := (KW.out.arg (.tail _ (.head _))).reads.lt k
          have h64l : axT q xs ys k < 18446744073709551616 := by rw [← HGE.out k hkx]; exact (KW.out.arg (.head _)).reads.lt k
          have CX := Lib.hid (fun Y (h : Below wr.heap.size wr Y) => show Y.cell? ⟨bx, ox + k, none⟩ = some (.float .f64 (ge xs k)) by
            obtain ⟨b', o', h', _, hc'⟩ := ((KW.out.call h).arg (.tail _ (.tail _ (.head _)))).reads.2 (by omega)
            cases h'; exact hc' k hkx)
          have CY := Lib.hid (fun Y (h : Below wr.heap.size wr Y) => show Y.cell? ⟨by_, oy + k, none⟩ = some (.float .f64 (ge ys k)) by
            obtain ⟨b', o', h', _, hc'⟩ := ((KW.out.call h).arg (.tail _ (.head _))).reads.2 (by have := HE1.out; omega)
            cases h'; exact hc' k (by have := HE1.out; omega))
          have CL := Lib.hid (fun Y (h : Below wr.heap.size wr Y) => show Y.cell? ⟨bl, ol + k, none⟩ = some (.float .f64 (axT q xs ys k)) by
            obtain ⟨b', o', h', _, hc'⟩ := ((KW.out.call h).arg (.head _)).reads.2 (by have := HLL.out; omega)
            cases h'; rw [← HGE.out k hkx]; exact hc' k (by have := HLL.out; omega))
          have hlaw := HLAW.out k hkx
          have fz := HFZ.out k hkx
          have fa := HFX.out k hkx
          have fb := HFY.out k hkx
          have HLAWK := Lib.hid hlaw; have HFZK := Lib.hid fz; have HFA := Lib.hid fa; have HFB := Lib.hid fb
          have H64X := Lib.hid h64x; have H64Y := Lib.hid h64y; have H64L := Lib.hid h64l; have HKX := Lib.hid hkx
          clear hcx hcy hcl hlaw fz fa fb h64x h64y h64l
          generalize ge xs k = a at *
          generalize ge ys k = b at *
          generalize axT q xs ys k = z at *
          obtain ⟨W, hW⟩ : ∃ W, W = wr := ⟨_, rfl⟩
          subst hW
          have HDO := Lib.hid (fun Y GA GB (h1 : Bk Y GA 24 #[.float .f64 q, .float .f64 4607182418800017408]) (h2 : Bk Y GB 24 #[.float .f64 a, .float .f64 b]) => dot03_any [q, 4607182418800017408] [a, b] (some ⟨GA, 0, none⟩) (some ⟨GB, 0, none⟩) 2 2 Y (slPair h1 HQ.out (by decide)) (slPair h2 H64X.out H64Y.out) rfl (by show 2 ≤ 1000; decide) (fun i hi => by
            have hi2 : i < 2 := hi
            rcases (by omega : i = 0 ∨ i = 1) with rfl | rfl
            · exact HFQ.out
            · exact fin_one) (fun i hi => by
            have hi2 : i < 2 := hi
            rcases (by omega : i = 0 ∨ i = 1) with rfl | rfl
            · exact HFA.out
            · exact HFB.out))
          have HDA := Lib.hid (fun Y GA GB (h1 : Bk Y GA 24 #[.float .f64 (rg q), .float .f64 4607182418800017408]) (h2 : Bk Y GB 24 #[.float .f64 (rg a), .float .f64 (rg b)]) => dot03_any [rg q, 4607182418800017408] [rg a, rg b] (some ⟨GA, 0, none⟩) (some ⟨GB, 0, none⟩) 2 2 Y (slPair h1 (rg64 _) (by decide)) (slPair h2 (rg64 _) (rg64 _)) rfl (by show 2 ≤ 1000; decide) (fun i hi => by
            have hi2 : i < 2 := hi
            rcases (by omega : i = 0 ∨ i = 1) with rfl | rfl
            · exact fin_rg' HFQ.out
            · exact fin_one) (fun i hi => by
            have hi2 : i < 2 := hi
            rcases (by omega : i = 0 ∨ i = 1) with rfl | rfl
            · exact fin_rg' HFA.out
            · exact fin_rg' HFB.out))
          have hd1 : sumR (fun i => fv (ge [q, 4607182418800017408] i) * fv (ge [a, b] i)) [q, 4607182418800017408].length = 0 + fv q * fv a + 1 * fv b := by
            show 0 + fv q * fv a + fv oneF * fv b = _; rw [fvOne]
          have hd2 : sumR (fun i => fv (ge [rg q, 4607182418800017408] i) * fv (ge [rg a, rg b] i)) [rg q, 4607182418800017408].length = 0 + ab (fv q) * ab (fv a) + 1 * ab (fv b) := by
            show 0 + fv (rg q) * fv (rg a) + fv oneF * fv (rg b) = _; rw [fvOne, fv_rg, fv_rg, fv_rg]
          rw [hd1] at HDO
          rw [hd2] at HDA
          have hRD : R 9000 9000 (0 + fv q * fv a + 1 * fv b) := by
            have r1 := R_mul (R_fv HFQ.out) (R_fv HFA.out)
            have r2 : R 2148 2050 (fv b) := R_mono (R_fv HFB.out) (by omega) (by omega)
            rw [show 0 + fv q * fv a + 1 * fv b = fv q * fv a + fv b from by grind]
            exact R_mono (R_add r1 r2) (by omega) (by omega)
          have hRS : R 9000 9000 (0 + ab (fv q) * ab (fv a) + 1 * ab (fv b)) := by
            have r1 := R_mul (R_ab (R_fv HFQ.out)) (R_ab (R_fv HFA.out))
            have r2 : R 2148 2050 (ab (fv b)) := R_mono (R_ab (R_fv HFB.out)) (by omega) (by omega)
            rw [show 0 + ab (fv q) * ab (fv a) + 1 * ab (fv b) = ab (fv q) * ab (fv a) + ab (fv b) from by grind]
            exact R_mono (R_add r1 r2) (by omega) (by omega)
          have HRD := Lib.hid hRD; have HRS := Lib.hid hRS
          clear hd1 hd2 hRD hRS
          dsimp only [List.length_cons, List.length_nil] at HDO HDA
          generalize 0 + fv q * fv a + 1 * fv b = DD at *
          generalize 0 + ab (fv q) * ab (fv a) + 1 * ab (fv b) = SS at *
          have HKE := Lib.hid (fun Y (h : Below W.heap.size W Y) => And.intro (CX.out Y h) (And.intro (CY.out Y h) h))
          go_wp2_with fail
          go_cut [10, 11] (fun s10 s11 wx => ∃ (g : Nat) (d1 : Dy) (A1 : Option Addr) (c1 : Nat), s10 = .pointer (some ⟨g, 0, none⟩) ∧ s11 = .bool true ∧ KeepD w wx [(g, d1, A1, c1)] [(some ⟨bl, ol, none⟩, axF q xs ys, m1), (some ⟨by_, oy, none⟩, ys, d), (some ⟨bx, ox, none⟩, xs, c)] [] ∧ d1.v = DD ∧ Below W.heap.size W wx)
          case first =>
            go_region_held3 (fun Y => (Y.cell? ⟨bx, ox + k, none⟩ = some (.float .f64 a) ∧ Y.cell? ⟨by_, oy + k, none⟩ = some (.float .f64 b) ∧ Below W.heap.size W Y))
              ((refine HKE.out _ ?_; first | (refine Below.setCell (Below.setCell (Below.setCell hbW (by exact bz.ge) _) (by exact bz.ge) _) (by exact bz.ge) _) | (repeat (first | assumption | exact Below.refl _ _ | refine Below.allocs ?_ _ | refine Below.drews ?_ | refine Below.chain ?_ (by assumption)))))
              (first
                | (go_at_call 13; (refine (HDO.out _ _ _ (by (repeat (first | with_reducible exact Bk.new _ _ _ | with_reducible exact bk_new1 _ _ _ _ | with_reducible exact bk_new2 _ _ _ _ _ | with_reducible refine Bk.alloc ?_ _ | with_reducible refine bk_drew ?_)); done) (by (repeat (first | with_reducible exact Bk.new _ _ _ | with_reducible exact bk_new1 _ _ _ _ | with_reducible exact bk_new2 _ _ _ _ _ | with_reducible refine Bk.alloc ?_ _ | with_reducible refine bk_drew ?_)); done)).mono ?_); rintro e y5 ⟨⟨v, rfl, hv⟩, hb5⟩; obtain ⟨d5, A5, c5, rfl, ha5, hv5⟩ := hv.a; unfold dyV at *; (first | (refine haveZ (B := W.heap.size) (g := W.heap.size) (by omega) hb5 ?_ ?_; (· repeat (first | with_reducible exact Bk.new _ _ _ | with_reducible exact bk_new1 _ _ _ _ | with_reducible exact bk_new2 _ _ _ _ _ | with_reducible refine Bk.alloc ?_ _ | with_reducible refine bk_drew ?_)); intro bz) | (refine haveZ (B := W.heap.size) (g := W.heap.size + 1) (by omega) hb5 ?_ ?_; (· repeat (first | with_reducible exact Bk.new _ _ _ | with_reducible exact bk_new1 _ _ _ _ | with_reducible exact bk_new2 _ _ _ _ _ | with_reducible refine Bk.alloc ?_ _ | with_reducible refine bk_drew ?_)); intro bz) | (refine haveZ (B := W.heap.size) (g := W.heap.size + 1 + 1) (by omega) hb5 ?_ ?_; (· repeat (first | with_reducible exact Bk.new _ _ _ | with_reducible exact bk_new1 _ _ _ _ | with_reducible exact bk_new2 _ _ _ _ _ | with_reducible refine Bk.alloc ?_ _ | with_reducible refine bk_drew ?_)); intro bz) | skip); (try (obtain ⟨x0, x1, x2⟩ := bz.bk.c3; obtain ⟨z0, z1, z2⟩ := bz.bk.f3)); have hbW : Below W.heap.size W y5 := (Below.chain (by repeat (first | assumption | exact Below.refl _ _ | refine Below.allocs ?_ _ | refine Below.drews ?_ | refine Below.chain ?_ (by assumption))) hb5)))
            all_goals
              have HBW := Lib.hid hbW; have HA5 := Lib.hid ha5
              go_wp2_with fail
              go_meet
              first
              | exact ⟨_, d5, A5, c5, rfl, rfl, (KW.out.pushB HBW.out HA5.out).1, hv5, (KW.out.pushB HBW.out HA5.out).2⟩
              | exact ⟨_, d5, A5, c5, rfl, rfl, (KW.out.fillB HBW.out bz HA5.out).1, hv5, (KW.out.fillB HBW.out bz HA5.out).2⟩
          case rest =>
            obtain ⟨g1, d1, A1, c1, rfl, rfl, hK1, hv1, hB1⟩ := hcut
            have KV := Lib.hid hK1; have HV1 := Lib.hid hv1; have HBV := Lib.hid hB1
            clear hK1 hv1 hB1 HKE
            have HKE := Lib.hid (fun Y (h : Below wc.heap.size wc Y) => And.intro (CX.out Y (Below.chain HBV.out h)) (And.intro (CY.out Y (Below.chain HBV.out h)) h))
            go_wp2_with fail
            go_cut [12, 13] (fun s12 s13 wx => ∃ (g : Nat) (d2 : Dy) (A2 : Option Addr) (c2 : Nat), s12 = .pointer (some ⟨g, 0, none⟩) ∧ s13 = .bool true ∧ KeepD w wx [(g, d2, A2, c2), (g1, d1, A1, c1)] [(some ⟨bl, ol, none⟩, axF q xs ys, m1), (some ⟨by_, oy, none⟩, ys, d), (some ⟨bx, ox, none⟩, xs, c)] [] ∧ d2.v = SS ∧ Below wc.heap.size wc wx)
            case first =>
              generalize hrq : rg q = rq at *
              generalize hra : rg a = ra at *
              generalize hrb : rg b = rb at *
              have HAQ := Lib.hid (fun Y => show Calls Try.prog 19 #[.float .f64 q] Y fun e w' => e = .returned (.float .f64 rq) ∧ Y = w' by rw [← hrq]; exact abs_any q HQ.out Y)
              have HAA := Lib.hid (fun Y => show Calls Try.prog 19 #[.float .f64 a] Y fun e w' => e = .returned (.float .f64 ra) ∧ Y = w' by rw [← hra]; exact abs_any a H64X.out Y)
              have HAB := Lib.hid (fun Y => show Calls Try.prog 19 #[.float .f64 b] Y fun e w' => e = .returned (.float .f64 rb) ∧ Y = w' by rw [← hrb]; exact abs_any b H64Y.out Y)
              clear hrq hra hrb
              go_region_held3 (fun Y => (Y.cell? ⟨bx, ox + k, none⟩ = some (.float .f64 a) ∧ Y.cell? ⟨by_, oy + k, none⟩ = some (.float .f64 b) ∧ Below wc.heap.size wc Y))
                ((refine HKE.out _ ?_; first | (refine Below.setCell (Below.setCell (Below.setCell hbW (by exact bz.ge) _) (by exact bz.ge) _) (by exact bz.ge) _) | (repeat (first | assumption | exact Below.refl _ _ | refine Below.allocs ?_ _ | refine Below.drews ?_ | refine Below.chain ?_ (by assumption)))))
                (first
                  | (go_at_call 19; ((with_reducible refine (HAQ.out _).mono ?_); rintro e y ⟨rfl, rfl⟩))
                  | (go_at_call 19; ((with_reducible refine (HAA.out _).mono ?_); rintro e y ⟨rfl, rfl⟩))
                  | (go_at_call 19; ((with_reducible refine (HAB.out _).mono ?_); rintro e y ⟨rfl, rfl⟩))
                  | (go_at_call 13; (refine (HDA.out _ _ _ (by (repeat (first | with_reducible exact Bk.new _ _ _ | with_reducible exact bk_new1 _ _ _ _ | with_reducible exact bk_new2 _ _ _ _ _ | with_reducible refine Bk.alloc ?_ _ | with_reducible refine bk_drew ?_)); done) (by (repeat (first | with_reducible exact Bk.new _ _ _ | with_reducible exact bk_new1 _ _ _ _ | with_reducible exact bk_new2 _ _ _ _ _ | with_reducible refine Bk.alloc ?_ _ | with_reducible refine bk_drew ?_)); done)).mono ?_); rintro e y5 ⟨⟨v, rfl, hv⟩, hb5⟩; obtain ⟨d5, A5, c5, rfl, ha5, hv5⟩ := hv.a; unfold dyV at *; (first | (refine haveZ (B := wc.heap.size) (g := wc.heap.size) (by omega) hb5 ?_ ?_; (· repeat (first | with_reducible exact Bk.new _ _ _ | with_reducible exact bk_new1 _ _ _ _ | with_reducible exact bk_new2 _ _ _ _ _ | with_reducible refine Bk.alloc ?_ _ | with_reducible refine bk_drew ?_)); intro bz) | (refine haveZ (B := wc.heap.size) (g := wc.heap.size + 1) (by omega) hb5 ?_ ?_; (· repeat (first | with_reducible exact Bk.new _ _ _ | with_reducible exact bk_new1 _ _ _ _ | with_reducible exact bk_new2 _ _ _ _ _ | with_reducible refine Bk.alloc ?_ _ | with_reducible refine bk_drew ?_)); intro bz) | (refine haveZ (B := wc.heap.size) (g := wc.heap.size + 1 + 1) (by omega) hb5 ?_ ?_; (· repeat (first | with_reducible exact Bk.new _ _ _ | with_reducible exact bk_new1 _ _ _ _ | with_reducible exact bk_new2 _ _ _ _ _ | with_reducible refine Bk.alloc ?_ _ | with_reducible refine bk_drew ?_)); intro bz) | skip); (try (obtain ⟨x0, x1, x2⟩ := bz.bk.c3; obtain ⟨z0, z1, z2⟩ := bz.bk.f3)); have hbW : Below wc.heap.size wc y5 := (Below.chain (by repeat (first | assumption | exact Below.refl _ _ | refine Below.allocs ?_ _ | refine Below.drews ?_ | refine Below.chain ?_ (by assumption))) hb5)))
              all_goals
                have HBW := Lib.hid hbW; have HA5 := Lib.hid ha5
                go_wp2_with fail
                go_meet
                first
                | exact ⟨_, d5, A5, c5, rfl, rfl, (KV.out.pushB HBW.out HA5.out).1, hv5, (KV.out.pushB HBW.out HA5.out).2⟩
                | exact ⟨_, d5, A5, c5, rfl, rfl, (KV.out.fillB HBW.out bz HA5.out).1, hv5, (KV.out.fillB HBW.out bz HA5.out).2⟩
            case rest =>
              obtain ⟨g2, d2, A2, c2, rfl, rfl, hK2, hv2, hB2⟩ := hcut
              have KE := Lib.hid hK2
              have HBE0 := Lib.hid (Below.chain HBV.out hB2)
              have HPW := Lib.hid (fun Y => pow04_any (-1074) (by omega) (by omega) Y)
              have HAP := Lib.hid (fun Y v' (h : Below wc.heap.size wc Y) h' => apart05_any z _ _ v' 3 DD SS (pw (-1074)) Y H64L.out HFZK.out (by have := ((KE.out.call h).val (.tail _ (.head _))).v; rw [HV1.out] at this; exact this) (by have := ((KE.out.call h).val (.head _)).v; rw [hv2] at this; exact this) h' (by omega) HRD.out HRS.out (R_pw (by omega) (by omega)))
              have hno : decide (SS * ((3 : Nat) : Rat) * pw (-53) + pw (-1074) < ab (fv z - DD)) = false := decide_eq_false HLAWK.out
              rw [hno] at HAP
              have HKF := Lib.hid (fun Y (h : Below wc.heap.size wc Y) => And.intro (CL.out Y (Below.chain HBE0.out h)) (And.intro ((KE.out.call h).box (.tail _ (.head _))).c3 (And.intro ((KE.out.call h).box (.head _)).c3 h)))
              unfold dyV at HAP
              clear hno hv2 hK2 hB2 HKE
              go_wp2_with fail
              go_region_held3 (fun Y => (Y.cell? ⟨bl, ol + k, none⟩ = some (.float .f64 z) ∧ (Y.cell? ⟨g1, 0, none⟩ = some (.bool d1.neg) ∧ Y.cell? ⟨g1, 1, none⟩ = some (.slice A1 (nd d1.n).length c1) ∧ Y.cell? ⟨g1, 2, none⟩ = some (.int .i64 d1.e)) ∧ (Y.cell? ⟨g2, 0, none⟩ = some (.bool d2.neg) ∧ Y.cell? ⟨g2, 1, none⟩ = some (.slice A2 (nd d2.n).length c2) ∧ Y.cell? ⟨g2, 2, none⟩ = some (.int .i64 d2.e)) ∧ Below wc.heap.size wc Y))
                ((refine HKF.out _ ?_; (repeat (first | assumption | exact Below.refl _ _ | refine Below.allocs ?_ _ | refine Below.drews ?_ | refine Below.chain ?_ (by assumption)))))
                (first
                  | (go_at_call 17; (refine (HPW.out _).mono ?_); rintro e y5 ⟨⟨v, rfl, hpv⟩, hb5⟩; obtain ⟨d5, A5, c5, rfl, ha5, hv5⟩ := hpv.a; unfold dyV at *)
                  | (go_at_call 15; (refine (HAP.out _ _ (by repeat (first | assumption | exact Below.refl _ _ | refine Below.allocs ?_ _ | refine Below.drews ?_ | refine Below.chain ?_ (by assumption))) (hpv.below (by repeat (first | assumption | exact Below.refl _ _ | refine Below.allocs ?_ _ | refine Below.drews ?_ | refine Below.chain ?_ (by assumption))))).mono ?_); rintro e y7 ⟨rfl, hb7⟩; have hbE : Below wc.heap.size wc y7 := (Below.chain (by repeat (first | assumption | exact Below.refl _ _ | refine Below.allocs ?_ _ | refine Below.drews ?_ | refine Below.chain ?_ (by assumption))) hb7)))
              all_goals
                have HEND := Lib.hid ((KE.out.call hbE).few (L' := []) (M' := [(some ⟨bl, ol, none⟩, axF q xs ys, m1), (some ⟨by_, oy, none⟩, ys, d), (some ⟨bx, ox, none⟩, xs, c)]) (O' := []) (fun y hy => absurd hy List.not_mem_nil) (fun y hy => hy) (fun y hy => hy))
                clear hpv ha5
                go_wp2
                go_roundw
                case rel => exact ⟨k + 1, by omega, by go_num, HEND.out⟩
                case measure => simp [intOf]; omega
        · obtain rfl : k = xs.length := by omega
          go_wp2_with fail
          refine (HLV.out _).mono ?_
          rintro e w' ⟨rfl, hb⟩
          have HB := Lib.hid (KW.out.call hb).below
          clear hb
          go_wp2
          go_ret
          exact ⟨rfl, HB.out⟩
end Go.Proofs.Ytfnhcgpdlhndhaa
