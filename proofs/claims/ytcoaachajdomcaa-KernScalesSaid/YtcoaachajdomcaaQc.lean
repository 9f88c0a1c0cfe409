/- The walk of KernScales. -/
import Derived.Test.YtcoaachajdomcaaGe
import Derived.Test.YtcoaachajdomcaaTq
import Derived.Test.YtcoaachajdomcaaMf
import Derived.Test.YtcoaachajdomcaaCf
import Derived.OneCell
namespace Go.Proofs.Ytcoaachajdomcaa
open Go.RowKit Go.Shelf Lev

theorem skl_map {xs : List Nat} {K : Int} (hx : ∀ x ∈ xs, x < 18446744073709551616) (h : ∀ x ∈ xs, scaleB x K = true) : Skl xs K (xs.map (fun x => scaleF x K)) := by
  refine ⟨List.length_map _, fun i hi => ?_⟩
  have e : ge (xs.map (fun x => scaleF x K)) i = scaleF (ge xs i) K := by
    unfold ge; rw [List.getElem?_map, List.getElem?_eq_getElem hi]; rfl
  have hm : ge xs i ∈ xs := by unfold ge; rw [List.getElem?_eq_getElem hi]; exact List.getElem_mem hi
  rw [e]
  refine scale_sk (hx _ hm) (kindS_le.1 ?_) (h _ hm)
  have hb := h _ hm
  unfold scaleB at hb
  by_cases h0 : kindS (ge xs i) = 0
  · omega
  · rw [if_neg h0] at hb
    by_cases h1 : kindS (ge xs i) = 1
    · omega
    · rw [if_neg h1] at hb; exact absurd hb (by decide)
theorem scaleF_lt {x : Nat} {K : Int} (hx : x < 18446744073709551616) (h : scaleB x K = true) : scaleF x K < 18446744073709551616 := by
  have := (skl_map (xs := [x]) (K := K) (fun y hy => by rw [List.mem_singleton] at hy; rw [hy]; exact hx) (fun y hy => by rw [List.mem_singleton] at hy; rw [hy]; exact h)).each 0 (by simp)
  exact this.ly

set_option maxRecDepth 100000 in
set_option maxHeartbeats 2000000 in
theorem kernScales (xs : List Nat) (A : Option Addr) (c : Nat) (ys : List Nat) (B : Option Addr) (d : Nat) (K : Int) (w : World) (hx : SlArg w A xs c) (hy : SlArg w B ys d) (_hK : -9223372036854775808 ≤ K ∧ K ≤ 9223372036854775807) :
    Calls Try.prog 7 #[.slice A xs.length c, .slice B ys.length d, .int .i64 K] w fun e w' => e = .returned (.bool true) ∧ Below w.heap.size w w' := by
  have hl63 : xs.length ≤ 9223372036854775807 := Nat.le_trans hx.cap hx.room
  have hl64 : ys.length ≤ 9223372036854775807 := Nat.le_trans hy.cap hy.room
  have HLV := Lib.hid (live05 w)
  by_cases g : (40 : Int) < (xs.length : Int)
  · clear hx hy
    go_enter Try.func7, Try.ntmps7
    go_wp2_with fail
    refine HLV.out.mono ?_
    rintro e w' ⟨rfl, hb⟩
    have HB := Lib.hid hb
    clear hb
    go_wp2
    go_ret
    exact ⟨rfl, HB.out⟩
  have g1 := g
  clear g
  by_cases g : (40 : Int) < (ys.length : Int)
  · clear hx hy
    go_enter Try.func7, Try.ntmps7
    go_wp2_with fail
    refine HLV.out.mono ?_
    rintro e w' ⟨rfl, hb⟩
    have HB := Lib.hid hb
    clear hb
    go_wp2
    go_ret
    exact ⟨rfl, HB.out⟩
  have g2 := g
  clear g
  by_cases g : K < -800
  · clear hx hy
    go_enter Try.func7, Try.ntmps7
    go_wp2_with fail
    refine HLV.out.mono ?_
    rintro e w' ⟨rfl, hb⟩
    have HB := Lib.hid hb
    clear hb
    go_wp2
    go_ret
    exact ⟨rfl, HB.out⟩
  have g3 := g
  clear g
  by_cases g : 800 < K
  · clear hx hy
    go_enter Try.func7, Try.ntmps7
    go_wp2_with fail
    refine HLV.out.mono ?_
    rintro e w' ⟨rfl, hb⟩
    have HB := Lib.hid hb
    clear hb
    go_wp2
    go_ret
    exact ⟨rfl, HB.out⟩
  have g4 := g
  clear g
  have hl : xs.length ≤ 40 := by omega
  have K0 := ((Keep.start w).more hx).more hy
  have hlt64 : ∀ x ∈ xs, x < 18446744073709551616 := hx.reads.1
  have HX := Lib.hid hx; have HY := Lib.hid hy; have HLT := Lib.hid hlt64
  clear hx hy hlt64 HLV
  obtain ⟨i0, hi, hz0, hz1, hz2⟩ := info_parts info_f64'
  go_enter Try.func7, Try.ntmps7
  go_wp2_with fail
  go_loopw [7, 8] (fun v i wr => ∃ k : Nat, k ≤ xs.length ∧ i = .int .i64 (k : Int) ∧ wr.ownsRow w.heap.size 22 1 v k (((xs.take k).map (fun x => scaleF x K)).map (Value.float .f64)) ∧ (∀ x ∈ xs.take k, scaleB x K = true) ∧ Below w.heap.size w wr) (fun _ i _ => xs.length - (intOf i).toNat)
  case atStart => exact ⟨0, Nat.zero_le _, rfl, World.ownsRow_nil _ _ _ _, fun x hx => absurd hx (by simp), Below.refl _ _⟩
  case round =>
    obtain ⟨k, hk, rfl, hown, hall, hbel⟩ := hrel
    by_cases hlt : (k : Int) < (xs.length : Int)
    · have hxk := HX.out.below hbel
      obtain ⟨b, off, rfl, hbl, hc⟩ := hxk.reads.2 (by omega)
      have hcell : wr.cell? ⟨b, off + k, none⟩ = some (.float .f64 (ge xs k)) := hc k (by omega)
      have hb : ge xs k < 18446744073709551616 := hxk.reads.lt k
      have htk : xs.take (k + 1) = xs.take k ++ [ge xs k] := by
        rw [List.take_succ_eq_append_getElem (by omega)]; unfold ge; rw [List.getElem?_eq_getElem (by omega)]; rfl
      have HTK := Lib.hid htk; have HALL := Lib.hid hall; have HO := Lib.hid hown; have HB := Lib.hid hbel; have HSZ := Lib.hid hbel.size
      generalize ge xs k = x at *
      have hs := fun W => scale_any x K hb W
      clear hc hb htk hall hxk
      cases hsb : scaleB x K
      · rw [hsb] at hs
        have HS := Lib.hid hs
        clear hs hsb hown hbel
        go_wp2_with fail
        refine (HS.out _).mono ?_
        rintro e w' ⟨rfl, rfl⟩
        go_wp2_with fail
        refine (live05 _).mono ?_
        rintro e w' ⟨rfl, hb⟩
        have HBL := Lib.hid (Below.chain HB.out hb)
        clear hb
        go_wp2
        go_ret
        exact ⟨rfl, HBL.out⟩
      · rw [hsb] at hs
        have HS := Lib.hid hs; have HSB := Lib.hid hsb
        clear hs hsb
        go_wp2_with (first
          | (go_at_call 31; refine (HS.out _).mono ?_; rintro e w' ⟨rfl, rfl⟩)
          | (at_builtin; refine wpList_append_own _ rfl _ _ 23 rfl w.heap.size 22 i0 (.float .f64 0) 1 8 Try.underlying23 hi hz0 hz1 hz2 rfl (by decide) _ _ _ rfl (hown.alloc _) ⟨wr.heap.size, 0, none⟩ 1 1 [.float .f64 (scaleF x K)] rfl rfl (cell_one_new _ _ _) (by simp [Value.oneCell']) (by unfold maxLen; omega) (by omega) (by have := HSZ.out; simp; omega) ?_; intro v' w1 hown' hgrow _))
        go_roundw
        case rel =>
          refine ⟨k + 1, by omega, by go_num, by rw [HTK.out, List.map_append, List.map_append]; exact hown', fun y hy => ?_, ?_⟩
          · rw [HTK.out] at hy
            rcases List.mem_append.1 hy with h | h
            · exact HALL.out y h
            · rw [List.mem_singleton] at h; rw [h]; exact HSB.out
          · exact (hbel.alloc HSZ.out _).grown hgrow (by have := HSZ.out; simp; omega) (own_from hown)
        case measure => simp [intOf]; omega
    · obtain rfl : k = xs.length := by omega
      rw [List.take_length] at hall hown
      have hskl := skl_map HLT.out hall
      have hlen : (xs.map (fun x => scaleF x K)).length = xs.length := List.length_map _
      rw [← hlen] at hown
      have hmade := made_of_own hown (fun y hy => by
        rw [List.mem_map] at hy
        obtain ⟨x, hx0, rfl⟩ := hy
        exact scaleF_lt (HLT.out x hx0) (hall x hx0))
      obtain ⟨A2, c2, rfl, hs2, _⟩ := hmade
      clear hall hown hk hlt
      generalize xs.map (fun x => scaleF x K) = ls at *
      have hl2 : ls.length ≤ 40 := by omega
      have K1 := (K0.call hbel).more hs2
      clear K0 hbel hs2
      have c1 := fun W hX hY => kdot_any A xs c B ys d W hX hY hl
      have c2' := fun W hX hY => kdot_any A2 ls c2 B ys d W hX hY hl2
      have c3 := fun W hX => knorm_any A xs c W hX hl
      have c4 := fun W hX => knorm_any A2 ls c2 W hX hl2
      have c5 := fun W hX => ksum_any A xs c W hX hl
      have c6 := fun W hX => ksum_any A2 ls c2 W hX hl2
      have hrel : fitS xs ys = true → fitS ls ys = true → allIn xs = true ∧ allIn ls = true ∧ Sk (dotF xs ys) K (dotF ls ys) ∧ Sk (normF xs) K (normF ls) ∧ Sk (sumF xs) K (sumF ls) := fun h1 h2 =>
        ⟨(fitS_iff.1 h1).2.1, (fitS_iff.1 h2).2.1, dot_scale hskl h1 h2 hl, norm_scale hskl (fitS_iff.1 h1).2.1 (fitS_iff.1 h2).2.1 hl, sum_scale hskl (fitS_iff.1 h1).2.1 (fitS_iff.1 h2).2.1 hl⟩
      generalize dotF xs ys = p1 at *
      generalize dotF ls ys = p2 at *
      generalize normF xs = n1 at *
      generalize normF ls = n2 at *
      generalize sumF xs = s1 at *
      generalize sumF ls = s2 at *
      generalize fitS xs ys = f1 at *
      generalize fitS ls ys = f2 at *
      generalize allIn xs = a1 at *
      generalize allIn ls = a2 at *
      have C1 := Lib.hid c1; have C2 := Lib.hid c2'; have C3 := Lib.hid c3; have C4 := Lib.hid c4; have C5 := Lib.hid c5; have C6 := Lib.hid c6; have HREL := Lib.hid hrel
      clear c1 c2' c3 c4 c5 c6 hrel hskl hlen
      go_wp2_with fail
      refine (C1.out _ (K1.arg (.tail _ (.tail _ (.head _)))) (K1.arg (.tail _ (.head _)))).mono ?_
      rintro e u1 ⟨rfl, hb⟩
      have K2 := K1.call hb
      clear K1 hb
      go_wp2_with fail
      refine (C2.out _ (K2.arg (.head _)) (K2.arg (.tail _ (.head _)))).mono ?_
      rintro e u2 ⟨rfl, hb⟩
      have K3 := K2.call hb
      clear K2 hb
      go_wp2_with fail
      refine (C3.out _ (K3.arg (.tail _ (.tail _ (.head _))))).mono ?_
      rintro e u3 ⟨rfl, hb⟩
      have K4 := K3.call hb
      clear K3 hb
      go_wp2_with fail
      refine (C4.out _ (K4.arg (.head _))).mono ?_
      rintro e u4 ⟨rfl, hb⟩
      have K5 := K4.call hb
      clear K4 hb
      go_wp2_with fail
      refine (C5.out _ (K5.arg (.tail _ (.tail _ (.head _))))).mono ?_
      rintro e u5 ⟨rfl, hb⟩
      have K6 := K5.call hb
      clear K5 hb
      go_wp2_with fail
      refine (C6.out _ (K6.arg (.head _))).mono ?_
      rintro e u6 ⟨rfl, hb⟩
      have K7 := K6.call hb
      clear K6 hb
      have HB := Lib.hid K7.below
      clear K7
      cases f1
      · clear HREL
        go_wp2_with fail
        refine (live05 _).mono ?_
        rintro e w' ⟨rfl, hb⟩
        have HBL := Lib.hid (Below.chain HB.out hb)
        clear hb
        go_wp2
        go_ret
        exact ⟨rfl, HBL.out⟩
      · cases f2
        · clear HREL
          go_wp2_with fail
          refine (live05 _).mono ?_
          rintro e w' ⟨rfl, hb⟩
          have HBL := Lib.hid (Below.chain HB.out hb)
          clear hb
          go_wp2
          go_ret
          exact ⟨rfl, HBL.out⟩
        · obtain ⟨rfl, rfl, k1, k2, k3⟩ := HREL.out rfl rfl
          have e1 := fun W => scale_any p1 K k1.lx W
          have e2 := fun W => scale_any n1 K k2.lx W
          have e3 := fun W => scale_any s1 K k3.lx W
          rw [(sk_scale k1).1, (sk_scale k1).2] at e1
          rw [(sk_scale k2).1, (sk_scale k2).2] at e2
          rw [(sk_scale k3).1, (sk_scale k3).2] at e3
          have m1 := fun W => same_any p2 p2 W
          have m2 := fun W => same_any n2 n2 W
          have m3 := fun W => same_any s2 s2 W
          rw [sameS_self] at m1 m2 m3
          have E1 := Lib.hid e1; have E2 := Lib.hid e2; have E3 := Lib.hid e3; have M1 := Lib.hid m1; have M2 := Lib.hid m2; have M3 := Lib.hid m3
          clear HREL k1 k2 k3 e1 e2 e3 m1 m2 m3
          go_wp2_with fail
          refine (E1.out _).mono ?_
          rintro e w' ⟨rfl, rfl⟩
          go_wp2_with fail
          refine (E2.out _).mono ?_
          rintro e w' ⟨rfl, rfl⟩
          go_wp2_with fail
          refine (E3.out _).mono ?_
          rintro e w' ⟨rfl, rfl⟩
          go_wp2_with fail
          refine (M1.out _).mono ?_
          rintro e w' ⟨rfl, rfl⟩
          go_wp2_with fail
          refine (M2.out _).mono ?_
          rintro e w' ⟨rfl, rfl⟩
          go_wp2_with fail
          refine (M3.out _).mono ?_
          rintro e w' ⟨rfl, rfl⟩
          go_wp2_with fail
          refine (live05 _).mono ?_
          rintro e w' ⟨rfl, hb⟩
          have HBL := Lib.hid (Below.chain HB.out hb)
          clear hb
          go_wp2
          go_ret
          exact ⟨rfl, HBL.out⟩

end Go.Proofs.Ytcoaachajdomcaa
