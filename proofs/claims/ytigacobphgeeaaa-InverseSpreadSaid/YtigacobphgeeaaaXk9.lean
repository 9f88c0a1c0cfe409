/- The document's inverse: Rows, One, Cond. -/
import Derived.Test.YtigacobphgeeaaaXj9
set_option linter.unusedVariables false
namespace Lev
/-- The rows below i, and of row i what is left of column j. -/
def partL (g : Nat → Nat → Nat) (n i j : Nat) : List Nat := rowsL g n i ++ (List.range (j - i)).map (fun s => g i (i + s))
theorem partL_start (g : Nat → Nat → Nat) (n i : Nat) : partL g n i i = rowsL g n i := by
  unfold partL; rw [Nat.sub_self]; exact List.append_nil _
theorem partL_snoc (g : Nat → Nat → Nat) {n i j : Nat} (h : i ≤ j) : partL g n i (j + 1) = partL g n i j ++ [g i j] := by
  unfold partL
  rw [show j + 1 - i = (j - i) + 1 from by omega, List.range_succ, List.map_append, ← List.append_assoc]
  show _ ++ [g i (i + (j - i))] = _
  rw [show i + (j - i) = j from by omega]
theorem partL_end (g : Nat → Nat → Nat) {n i : Nat} (h : i ≤ n) : partL g n i n = rowsL g n (i + 1) := by
  unfold partL
  show _ = rowsL g n i ++ (rowL g i n).drop i
  congr 1
  refine list_ext (by rw [List.length_drop, rowL_len, List.length_map, List.length_range]) (fun p hp => ?_)
  rw [List.length_map, List.length_range] at hp
  rw [List.getElem?_drop, rowL_get _ (by omega), List.getElem?_map, List.getElem?_range hp]
  rfl
theorem partL_len (g : Nat → Nat → Nat) (n i j : Nat) : (partL g n i j).length ≤ n * i + j := by
  unfold partL
  rw [List.length_append, List.length_map, List.length_range]
  have := rowsL_len g n i
  omega
end Lev
namespace Go.Proofs.Ytigacobphgeeaaa
open Go.RowKit Go.Shelf Lev

set_option maxRecDepth 100000 in
set_option maxHeartbeats 1000000 in
theorem rows18_no (f : Fct) (A : Option Addr) (c : Nat) (w : World) (hx : SlArg w A f.xs c) (hok : f.ok = false) :
    Calls Try.prog 11 #[facV f.C A f.xs.length c f.R f.T] w fun e w' => e = .returned (.tuple #[.slice none 0 0, .int .i64 1]) ∧ Below w.heap.size w w' := by
  have hck := fun W h => rcheck_any f.C A f.xs c f.R f.T W h
  rw [show checkS f.C f.xs f.R f.T = false from hok] at hck
  have K0 := Lib.hid (((Keep.start w).more hx).alloc #[.int .i64 f.C, .slice A f.xs.length c, .int .i64 f.R, .int .i64 f.T] 24)
  unfold facV at hck ⊢
  have HCK := Lib.hid hck
  clear hx hck
  go_enter Try.func11, Try.ntmps11
  go_wp2_with fail
  refine (HCK.out _ (K0.out.arg (.head _))).mono ?_
  rintro e w1 ⟨rfl, hb⟩
  have K1 := Lib.hid (K0.out.call hb)
  clear hb
  go_wp2
  go_ret2
  exact ⟨rfl, K1.out.below⟩

def Rows18P (f : Fct) (lo : Nat) (e : Ending) (w' : World) : Prop := ∃ v, e = .returned (.tuple #[v, .int .i64 (invE f)]) ∧ MadeF lo w' v (rowsS f)
theorem Rows18P.bad {f : Fct} {lo : Nat} {w' : World} {E : Int} (h : invE f = E) (h0 : E ≠ 0) : Rows18P f lo (.returned (.tuple #[.slice none 0 0, .int .i64 E])) w' := by
  have hr : rowsS f = [] := by unfold rowsS; rw [if_neg (by rw [h]; exact h0)]
  unfold Rows18P
  rw [h, hr]
  exact ⟨_, rfl, none, 0, rfl, ⟨FlR.nil _ _ _, Nat.le_refl _, by decide⟩, fun a ha => by cases ha⟩

set_option maxRecDepth 100000 in
set_option maxHeartbeats 8000000 in
theorem rows18_in (f : Fct) (A : Option Addr) (c : Nat) (w : World) (hx : SlArg w A f.xs c) (hok : f.ok = true) (n : Nat) (hn : f.C = (n : Int)) :
    Calls Try.prog 11 #[facV f.C A f.xs.length c f.R f.T] w fun e w' => Rows18P f w.heap.size e w' ∧ Below w.heap.size w w' := by
  have hn6 : 1 ≤ n ∧ n ≤ 6 := by have := ok_len hok; omega
  have hCn : f.C.toNat = n := by omega
  have hck := fun W h => rcheck_any f.C A f.xs c f.R f.T W h
  rw [show checkS f.C f.xs f.R f.T = true from hok] at hck
  have hsi := fun W h => sing_any f A c W h hok n hn
  have hwh := fun W h => whole_any f A c W h hok n hn
  have hE : invE f = if singB f n = true then 7 else if wildB (gS f) n = true then 2 else 0 := by
    unfold invE
    rw [if_neg (by rw [hok]; decide), hCn]
  have hrs : invE f = 0 → rowsS f = rowsL (wS (gS f)) n n := fun h => by unfold rowsS; rw [if_pos h, hCn]
  obtain ⟨i0, hi, hz0, hz1, hz2⟩ := info_parts info_f64'
  have HI := Lib.hid hi; have HZ0 := Lib.hid hz0; have HZ1 := Lib.hid hz1; have HZ2 := Lib.hid hz2
  have k0 := ((Keep.start w).more hx).alloc #[.int .i64 f.C, .slice A f.xs.length c, .int .i64 f.R, .int .i64 f.T] 24
  unfold facV at hck hsi hwh ⊢
  rw [hn] at hck hsi hwh k0 ⊢
  have K0 := Lib.hid k0; have HCK := Lib.hid hck; have HSI := Lib.hid hsi; have HWH := Lib.hid hwh; have HE := Lib.hid hE; have HRS := Lib.hid hrs
  obtain ⟨hn1, hn2⟩ := hn6
  clear hx hok hn hck hsi hwh hE hrs k0 hCn hi hz0 hz1 hz2
  go_enter Try.func11, Try.ntmps11
  go_wp2_with fail
  refine (HCK.out _ (K0.out.arg (.head _))).mono ?_
  rintro e w1 ⟨rfl, hb⟩
  have K1 := Lib.hid (K0.out.call hb)
  obtain ⟨r0, r1, r2, r3⟩ := (K1.out.box (.head _)).c4
  clear hb
  go_wp2_with fail
  refine (HSI.out _ (K1.out.arg (.head _))).mono ?_
  rintro e w2 ⟨rfl, hb⟩
  have K2 := Lib.hid (K1.out.call hb)
  clear hb r0 r1 r2 r3
  obtain ⟨r0, r1, r2, r3⟩ := (K2.out.box (.head _)).c4
  cases hsg : singB f n
  · have hE2 : invE f = if wildB (gS f) n = true then 2 else 0 := by rw [HE.out, hsg]; rfl
    have HE2 := Lib.hid hE2
    clear hE2 hsg
    go_wp2_with fail
    refine (HWH.out _ (K2.out.arg (.head _))).mono ?_
    rintro e w3 ⟨⟨B, cB, rfl, hcB, b, M, hwm, hM, _⟩, hb⟩
    have K3 := Lib.hid (K2.out.call hb)
    have HWM := Lib.hid hwm; have HM := Lib.hid hM
    have hs3 : w.heap.size ≤ w3.heap.size := K3.out.below.size
    have HFIN := Lib.hid (fun (h : ∀ i j, i ≤ j → j < n → wildS (M i j) = false) => show invE f = 0 from by
      rw [HE2.out, if_neg (by rw [wildB_no (fun i j hij hj => by rw [← hM i j hij hj, ← wild_cn]; exact h i j hij hj)]; decide)])
    have HBAD := Lib.hid (fun i j (hij : i ≤ j) (hj : j < n) (h : wildS (M i j) = true) => show invE f = 2 from by
      rw [HE2.out, if_pos (wildB_at hij hj (by rw [← hM i j hij hj, ← wild_cn]; exact h))])
    have HVAL := Lib.hid (fun i j (hij : i ≤ j) (hj : j < n) (h : wildS (M i j) = false) => show M i j = wS (gS f) i j from by
      have h1 := hM i j hij hj
      refine cn_back h1 ?_
      rw [← h1]
      rw [wild_cn] at h
      unfold wildS at h
      rw [decide_eq_false_iff_not] at h
      omega)
    have hl64 := hwm.rm.l64
    have HL64 := Lib.hid hl64
    clear hb hwm hM hl64 r0 r1 r2 r3
    go_wp2_with fail
    go_loopw [5, 6] (fun ov iv wr => ∃ q : Nat, q ≤ n ∧ iv = .int .i64 (q : Int) ∧ wr.ownsRow w3.heap.size 29 1 ov (rowsL (wS (gS f)) n q).length ((rowsL (wS (gS f)) n q).map (Value.float .f64)) ∧ (∀ i j, i < q → i ≤ j → j < n → wildS (M i j) = false) ∧ (∀ y ∈ rowsL (wS (gS f)) n q, y < 18446744073709551616) ∧ Below w3.heap.size w3 wr) (fun _ iv _ => n - (intOf iv).toNat)
    case atStart => exact ⟨0, Nat.zero_le _, rfl, ⟨rfl, .inl ⟨rfl, rfl⟩⟩, fun i j h => absurd h (Nat.not_lt_zero _), fun y h => absurd h List.not_mem_nil, Below.refl _ _⟩
    case round =>
      obtain ⟨q, hq, rfl, hown, hnw, hy, hbl⟩ := hrel
      have hK := K3.out.call hbl
      obtain ⟨r0, r1, r2, r3⟩ := (hK.box (.head _)).c4
      have HO := Lib.hid hown; have HNW := Lib.hid hnw; have HY := Lib.hid hy; have HBL := Lib.hid hbl
      clear hown hnw hy hbl hK
      by_cases hlt : (q : Int) < (n : Int)
      · have hqn : q < n := by omega
        go_wp2_with fail
        clear r0 r1 r2 r3
        go_loopw [5, 7] (fun ov iv wq => ∃ j : Nat, q ≤ j ∧ j ≤ n ∧ iv = .int .i64 (j : Int) ∧ wq.ownsRow w3.heap.size 29 1 ov (partL (wS (gS f)) n q j).length ((partL (wS (gS f)) n q j).map (Value.float .f64)) ∧ (∀ a, q ≤ a → a < j → wildS (M q a) = false) ∧ (∀ y ∈ partL (wS (gS f)) n q j, y < 18446744073709551616) ∧ Below w3.heap.size w3 wq) (fun _ iv _ => n - (intOf iv).toNat)
        case atStart => exact ⟨q, Nat.le_refl _, by omega, rfl, by rw [partL_start]; exact HO.out, fun a h1 h2 => by omega, by rw [partL_start]; exact HY.out, HBL.out⟩
        case round =>
          obtain ⟨j, hqj, hjn, rfl, hown, hnj, hy, hbl⟩ := hrel
          have hK := K3.out.call hbl
          obtain ⟨r0, r1, r2, r3⟩ := (hK.box (.head _)).c4
          have hW := HWM.out.below hbl
          have HO2 := Lib.hid hown; have HNJ := Lib.hid hnj; have HY2 := Lib.hid hy; have HBL2 := Lib.hid hbl
          have hsz := hbl.size
          clear hown hnj hy hbl hK
          by_cases hlj : (j : Int) < (n : Int)
          · have hj : j < n := by omega
            have a0 := hW.rm.out q hqn
            have a1 := hW.rm.row q j hqn hj
            rw [Nat.zero_add] at a1
            have HNU := Lib.hid (fun W => number_any (M q j) (HL64.out q j) W)
            have hps := partL_snoc (wS (gS f)) (n := n) hqj
            have hpl := partL_len (wS (gS f)) n q j
            have hlq : n * q ≤ 36 := by
              have := Nat.mul_le_mul hn2 (show q ≤ 6 by omega)
              omega
            have HPS := Lib.hid hps
            clear hW hps
            cases hwd : wildS (M q j)
            · have hv := HVAL.out q j hqj hj hwd
              rw [hwd] at HNU
              have hL : (partL (wS (gS f)) n q j).length + 1 = (partL (wS (gS f)) n q (j + 1)).length := by rw [HPS.out, List.length_append]; rfl
              have hMM : (partL (wS (gS f)) n q j).map (Value.float .f64) ++ [Value.float .f64 (M q j)] = (partL (wS (gS f)) n q (j + 1)).map (Value.float .f64) := by rw [HPS.out, List.map_append, hv]; rfl
              have HL := Lib.hid hL; have HMM := Lib.hid hMM; have HV := Lib.hid hv; have HWD := Lib.hid hwd
              have hl9 := HL64.out q j
              have HL9 := Lib.hid hl9
              generalize (partL (wS (gS f)) n q j).length = pl at *
              generalize hx9 : M q j = x at *
              have HX9 := Lib.hid hx9
              clear hv hL hMM hwd hl9 hx9
              go_wp2_with fail
              refine (HNU.out _).mono ?_
              rintro e w5 ⟨rfl, rfl⟩
              go_wp2_with (at_builtin; refine wpList_append_own _ rfl _ _ 22 rfl w3.heap.size 29 i0 (.float .f64 0) 1 8 Try.underlying22 HI.out HZ0.out HZ1.out HZ2.out rfl (by decide) _ _ _ rfl (HO2.out.alloc _) ⟨wr.heap.size, 0, none⟩ 1 1 [.float .f64 x] rfl rfl (cell_one_new _ _ _) (by simp [Value.oneCell']) (by unfold maxLen; omega) (by omega) (by simp; omega) ?_; intro v' w6 hown' hgrow _)
              go_roundw
              case rel => exact ⟨j + 1, by omega, by omega, by go_num, by rw [← HMM.out, ← HL.out]; exact hown', fun a h1 h2 => by
                by_cases e : a = j
                · subst e; rw [HX9.out]; exact HWD.out
                · exact HNJ.out a h1 (by omega), fun y hy => by
                rw [HPS.out] at hy
                rcases List.mem_append.1 hy with hy | hy
                · exact HY2.out y hy
                · rw [List.mem_singleton.1 hy, ← HV.out]; exact HL9.out, (HBL2.out.alloc hsz _).grown hgrow (by simp; omega) (own_from HO2.out)⟩
              case measure => simp [intOf]; omega
            · rw [hwd] at HNU
              have hE2' := HBAD.out q j hqj hj hwd
              have HR := Lib.hid (fun w' => Rows18P.bad (lo := w.heap.size) (w' := w') hE2' (by decide))
              clear hE2' hwd
              go_wp2_with fail
              refine (HNU.out _).mono ?_
              rintro e w5 ⟨rfl, rfl⟩
              go_wp2
              go_ret2
              exact ⟨HR.out _, Below.chain K3.out.below HBL2.out⟩
          · have hje : j = n := by omega
            have hO3 := HO2.out
            have hY3 := HY2.out
            rw [hje, partL_end _ (by omega)] at hO3 hY3
            have HO3 := Lib.hid hO3; have HY3 := Lib.hid hY3
            have HJE := Lib.hid hje
            clear hW hO3 hY3 hje
            go_wp2
            go_roundw
            case rel => exact ⟨q + 1, by omega, by go_num, HO3.out, fun i a hi hia ha => by
              by_cases e : i = q
              · subst e; exact HNJ.out a hia (by have := HJE.out; omega)
              · exact HNW.out i a (by omega) hia ha, HY3.out, HBL2.out⟩
            case measure => simp [intOf]; omega
      · have hqe : q = n := by omega
        have hE0 := HFIN.out (fun i j hij hj => HNW.out i j (by omega) hij hj)
        have hO3 := HO.out
        have hY3 := HY.out
        rw [hqe] at hO3 hY3
        have hmd := made_of_own hO3 hY3
        have HR := Lib.hid (show Rows18P f w.heap.size (.returned (.tuple #[u5, .int .i64 0])) wr from by
          unfold Rows18P
          rw [hE0, HRS.out hE0]
          obtain ⟨A2, c2, h1, h2, h3⟩ := hmd
          exact ⟨_, rfl, A2, c2, h1, h2, fun a ha => by have := h3 a ha; omega⟩)
        clear hqe hE0 hO3 hY3 hmd
        go_wp2
        go_ret2
        exact ⟨HR.out, Below.chain K3.out.below HBL.out⟩
  · have hE7 : invE f = 7 := by rw [HE.out, hsg]; rfl
    have HR := Lib.hid (fun w' => Rows18P.bad (lo := w.heap.size) (w' := w') hE7 (by decide))
    clear hE7 hsg
    go_wp2
    go_ret2
    exact ⟨HR.out _, K2.out.below⟩

theorem rows18_any (f : Fct) (A : Option Addr) (c : Nat) (w : World) (hx : SlArg w A f.xs c) :
    Calls Try.prog 11 #[facV f.C A f.xs.length c f.R f.T] w fun e w' => Rows18P f w.heap.size e w' ∧ Below w.heap.size w w' := by
  cases hok : f.ok
  · refine (rows18_no f A c w hx hok).mono ?_
    rintro e w' ⟨rfl, hb⟩
    exact ⟨Rows18P.bad (by unfold invE; rw [if_pos hok]) (by decide), hb⟩
  · have hc := ok_len hok
    exact rows18_in f A c w hx hok f.C.toNat (by omega)

set_option maxRecDepth 100000 in
set_option maxHeartbeats 2000000 in
theorem One18_any (f : Fct) (A : Option Addr) (c : Nat) (w : World) (hx : SlArg w A f.xs c) :
    Calls Try.prog 13 #[facV f.C A f.xs.length c f.R f.T] w fun e w' => e = .returned (.tuple #[.float .f64 (oneV f), .int .i64 (oneE f)]) ∧ Below w.heap.size w w' := by
  have hck := fun W h => rcheck_any f.C A f.xs c f.R f.T W h
  have K0 := Lib.hid (((Keep.start w).more hx).alloc #[.int .i64 f.C, .slice A f.xs.length c, .int .i64 f.R, .int .i64 f.T] 24)
  cases hok : f.ok
  · rw [show checkS f.C f.xs f.R f.T = false from hok] at hck
    have e1 : oneV f = 0 := by unfold oneV; rw [hok]; rfl
    have e2 : oneE f = 1 := by unfold oneE; rw [hok]; rfl
    rw [e1, e2]
    unfold facV at hck ⊢
    have HCK := Lib.hid hck
    clear hx hck e1 e2
    go_enter Try.func13, Try.ntmps13
    go_wp2_with fail
    refine (HCK.out _ (K0.out.arg (.head _))).mono ?_
    rintro e w1 ⟨rfl, hb⟩
    have K1 := Lib.hid (K0.out.call hb)
    clear hb
    go_wp2
    go_ret2
    exact ⟨rfl, K1.out.below⟩
  · rw [show checkS f.C f.xs f.R f.T = true from hok] at hck
    have hc := ok_len hok
    obtain ⟨n, hn⟩ : ∃ n : Nat, f.C = (n : Int) := ⟨f.C.toNat, by omega⟩
    have e1 : oneV f = oneS (gS f) n := by unfold oneV; rw [if_pos hok, show f.C.toNat = n from by omega]
    have e2 : oneE f = 0 := by unfold oneE; rw [if_pos hok]
    have hsq := fun W h => square18_any f A c W h hok n hn
    have HONE := Lib.hid (fun W B cB b o k h => one18_any (gS f) n (n + 1) (by omega) (by omega) B cB b o k (gS f) W h (fun _ _ _ _ => rfl) (fun i j _ _ => gS_fin hok i j))
    rw [e1, e2]
    unfold facV at hck hsq ⊢
    rw [hn] at hck hsq K0 ⊢
    have HCK := Lib.hid hck; have HSQ := Lib.hid hsq
    clear hx hck hsq e1 e2 hc
    go_enter Try.func13, Try.ntmps13
    go_wp2_with fail
    refine (HCK.out _ (K0.out.arg (.head _))).mono ?_
    rintro e w1 ⟨rfl, hb⟩
    have K1 := Lib.hid (K0.out.call hb)
    obtain ⟨r0, r1, r2, r3⟩ := (K1.out.box (.head _)).c4
    clear hb
    go_wp2_with fail
    refine (HSQ.out _ (K1.out.arg (.head _))).mono ?_
    rintro e w2 ⟨⟨B, ⟨cB, rfl⟩, b, o, k, hm⟩, hb⟩
    have K2 := Lib.hid (K1.out.call hb)
    have H1 := Lib.hid (HONE.out w2 B cB b o k hm)
    clear hb hm r0 r1 r2 r3
    go_wp2_with fail
    refine H1.out.mono ?_
    rintro e w3 ⟨rfl, rfl⟩
    go_wp2
    go_ret2
    exact ⟨rfl, K2.out.below⟩
end Go.Proofs.Ytigacobphgeeaaa
