/- Contracts of package kern: Norm. -/
import Derived.Test.YtcoaachajdomcaaGb
namespace Go.Proofs.Ytcoaachajdomcaa
open Go.RowKit Go.Shelf Lev

attribute [local go_sem] order_lt order_gt order_eq order_ne flt_or_feq flt_or_feq' run_store_float

theorem rg_pos {x : Nat} (hx : x ≤ INF) : rg x = x := by have := INF_eq; unfold rg; omega
theorem ord_pos {x : Nat} (hx : x ≤ INF) : ord x = x := by have := ord_rg x; rw [rg_pos hx] at this; exact this
theorem max2_pos {x y : Nat} (hx : x ≤ INF) (hy : y ≤ INF) : Builtin.max2 (.float .f64 x) (.float .f64 y) = pure (.float .f64 (max x y)) := by
  have e : Builtin.max2 (.float .f64 x) (.float .f64 y) = (match FloatKind.f64.format.order x y with
    | none => do pure (.float .f64 (← choose (.nanMinMax .f64 true x y)))
    | some .lt => pure (.float .f64 y)
    | some .gt => pure (.float .f64 x)
    | some .eq => pure (.float .f64 (if (FloatKind.f64.decode x).neg then y else x))) := rfl
  have ho := order_cases x y
  rw [rg_pos hx, rg_pos hy, ord_pos hx, ord_pos hy] at ho
  have e0 : FloatKind.f64.format.order x y = D.order x y := rfl
  rw [e, e0]
  rcases ho with ⟨h, hn⟩ | ⟨hc, ⟨h, ho⟩ | ⟨h, ho⟩ | ⟨h, ho⟩⟩
  · exact absurd ⟨hx, hy⟩ hn
  · have hm : max x y = y := by omega
    rw [h, hm]
  · have : x = y := by omega
    subst this
    rw [h, Nat.max_self]
    show pure (Value.float FloatKind.f64 (if _ then x else x)) = _
    rw [ite_self]
  · have hm : max x y = x := by omega
    rw [h, hm]

theorem run_max_pos {P : Program} {x y : Nat} (hx : x ≤ INF) (hy : y ≤ INF) (w : World) (ts : Array TypeId) (t : TypeId) :
    (Builtin.max_ ts t #[.float .f64 x, .float .f64 y]).run P w = .ok (.float .f64 (max x y)) w := by
  have h := max2_pos hx hy
  simp [Builtin.max_, h]

set_option maxHeartbeats 1000000 in
theorem knorm_any (A : Option Addr) (xs : List Nat) (c : Nat) (w : World) (hx : SlArg w A xs c) (hl : xs.length ≤ 40) :
    Calls Try.prog 15 #[.slice A xs.length c] w fun e w' => e = .returned (.tuple #[.float .f64 (normF xs), .bool (allIn xs)]) ∧ Below w.heap.size w w' := by
  have H1 := Lib.hid (kall_any A xs c w hx)
  cases ha : allIn xs
  · rw [ha] at H1
    have hr : normF xs = 0 := by unfold normF; rw [if_neg (by rw [ha]; simp)]
    rw [hr]
    clear ha hr hx
    go_enter Try.func15, Try.ntmps15
    go_wp2_with fail
    refine H1.out.mono ?_
    rintro e w' ⟨rfl, rfl⟩
    go_wp2
    go_ret2
    exact ⟨rfl, Below.refl _ _⟩
  · rw [ha] at H1
    have HA := Lib.hid ha
    have HX := Lib.hid hx
    have HI := Lib.hid INF_eq
    have HL := Lib.hid hl
    clear ha hx
    go_enter Try.func15, Try.ntmps15
    go_wp2_with (go_at_call 19; refine H1.out.mono ?_; rintro e w' ⟨rfl, rfl⟩)
    go_loop [4, 19] (fun s i => ∃ k : Nat, k ≤ xs.length ∧ i = .int .i64 (k : Int) ∧ s = .float .f64 (mostT xs k)) (fun _ i => xs.length - (intOf i).toNat)
    case atStart => exact ⟨0, Nat.zero_le _, rfl, rfl⟩
    case round =>
      obtain ⟨k, hk, rfl, rfl⟩ := hrel
      by_cases hlt : (k : Int) < (xs.length : Int)
      · obtain ⟨b, off, rfl, _, hc⟩ := HX.out.reads.2 (by omega)
        have hcell : w.cell? ⟨b, off + k, none⟩ = some (.float .f64 (ge xs k)) := hc k (by omega)
        have hb : ge xs k < 18446744073709551616 := HX.out.reads.lt k
        have hm := mostT_in HA.out k hk
        have hm1 : mostT xs (k + 1) = max (mostT xs k) (rg (ge xs k)) := rfl
        have hin := (inS_bd (allIn_get HA.out (k := k) (by omega))).1
        have hmax := fun (W : World) (ts : Array TypeId) (t : TypeId) => run_max_pos (P := Try.prog) (x := mostT xs k) (y := rg (ge xs k)) (by have := HI.out; omega) (by unfold fin at hin; omega) W ts t
        rw [← hm1] at hmax
        obtain ⟨m1, h1⟩ : ∃ m1, m1 = mostT xs (k + 1) := ⟨_, rfl⟩
        rw [← h1] at hmax
        have HM := Lib.hid h1; have HB := Lib.hid hb
        clear hm hin hm1 hc h1 hb
        generalize mostT xs k = m0 at *
        generalize ge xs k = x at *
        go_wp2_with (go_at_call 21; refine (abs_any _ HB.out _).mono ?_; rintro e w' ⟨rfl, rfl⟩)
        go_round
        case rel => exact ⟨k + 1, by omega, by go_num, by rw [HM.out]⟩
        case measure => simp [intOf]; omega
      · obtain rfl : k = xs.length := by omega
        by_cases h0 : mostT xs xs.length = 0
        · have hr : normF xs = 0 := by unfold normF; rw [if_neg (by simp [h0])]
          have HR := Lib.hid hr
          have hz : feq (mostT xs xs.length) 0 = true := by rw [h0]; decide
          clear hr h0
          go_wp2
          go_ret2
          exact ⟨by rw [HR.out]; rfl, Below.refl _ _⟩
        · have hr : normF xs = ldS (sqrtF (sumT (sqT xs (normK xs)) xs.length)) (normK xs) := by unfold normF; rw [if_pos ⟨HA.out, h0⟩]
          have HR := Lib.hid hr
          have hm := mostT_in HA.out xs.length (Nat.le_refl _)
          have hmr : rg (mostT xs xs.length) = mostT xs xs.length := rg_small (by omega)
          have hz : feq (mostT xs xs.length) 0 = false := by rw [feq_zero, hmr]; exact decide_eq_false h0
          have hti : inS (mostT xs xs.length) = true := by unfold inS; rw [decide_eq_true_eq, hmr]; omega
          have htop : topB (mostT xs xs.length) = normK xs := by rw [topB_of hti, hmr, if_neg h0]; rfl
          have hb := hm
          have hmb : mostT xs xs.length < 18446744073709551616 := by omega
          have hkk := topS_lo400 (m := mostT xs xs.length) (by omega) (by omega)
          have HT := Lib.hid (top_any (mostT xs xs.length) hmb)
          rw [htop] at HT
          have hns := norm_sum HA.out h0 (by have := HL.out; omega)
          have hsq := sqrt_bd hns.1 hns.2.1 hns.2.2
          have HNT := Lib.hid (fun i (hi : i < xs.length) => norm_terms HA.out h0 hi)
          have HAD := Lib.hid (fun k (hk : k < xs.length) => sumT_add (t := sqT xs (normK xs)) (E := 2) (by decide) (by decide) (k := k) (by have := HL.out; omega) (fun i hi => ⟨(HNT.out i (by omega)).2.2.2.1, (HNT.out i (by omega)).2.2.2.2.1⟩))
          have hkr : -400 ≤ normK xs ∧ normK xs ≤ 400 := hkk
          have hsc : ∀ i, scT xs (normK xs) i = ldS (ge xs i) (-normK xs) := fun _ => rfl
          have hsq2 : ∀ i, sqT xs (normK xs) i = fmul (scT xs (normK xs) i) (scT xs (normK xs) i) := fun _ => rfl
          have HLD := Lib.hid (fun i (hi : i < xs.length) (W : World) => Ldexp_any (ge xs i) (-normK xs) (HX.out.reads.lt i) (HNT.out i hi).1 (by omega) W)
          have HSQ := Lib.hid (sqrt_any _ _ hsq.1)
          have HLF := Lib.hid (fun W => Ldexp_any (sqrtF (sumT (sqT xs (normK xs)) xs.length)) (normK xs) hsq.2.2.1 hsq.2.1 (by omega) W)
          clear hm hmr hti htop hb hmb hkk hns hsq hr hsc hsq2 h0
          obtain ⟨hk1, hk2⟩ := hkr
          generalize normK xs = K at *
          go_wp2_with (first
            | (go_at_call 38; refine (HT.out _).mono ?_; rintro e w' ⟨rfl, rfl⟩)
            | (go_at_call 35; refine (counter_any _).mono ?_; rintro e w' ⟨rfl, rfl⟩))
          go_loopw [8, 35] (fun s i wr => ∃ k : Nat, k ≤ xs.length ∧ i = .int .i64 (k : Int) ∧ s = .float .f64 (sumT (sqT xs K) k) ∧ Bk wr w.heap.size 22 #[.float .f64 (sumT (sqT xs K) k)] ∧ SlArg wr A xs c ∧ Below w.heap.size w wr) (fun _ i _ => xs.length - (intOf i).toNat)
          case atStart => exact ⟨0, Nat.zero_le _, rfl, rfl, Bk.new _ _ _, HX.out.below ((Below.refl _ _).alloc (Nat.le_refl _) _), (Below.refl _ _).alloc (Nat.le_refl _) _⟩
          case round =>
            obtain ⟨k, hk, rfl, rfl, d0, hxk, hbel⟩ := hrel
            by_cases hlt : (k : Int) < (xs.length : Int)
            · obtain ⟨b, off, rfl, _, hc⟩ := hxk.reads.2 (by omega)
              have hcell : wr.cell? ⟨b, off + k, none⟩ = some (.float .f64 (ge xs k)) := hc k (by omega)
              have hs := HAD.out k (by omega)
              have hld := HLD.out k (by omega)
              have hmu := (HNT.out k (by omega)).2.2.1
              rw [show ldS (ge xs k) (-K) = scT xs K k from rfl] at hld
              obtain ⟨s1, h1⟩ : ∃ s1, s1 = sumT (sqT xs K) (k + 1) := ⟨_, rfl⟩
              obtain ⟨s0, h0⟩ : ∃ s0, s0 = sumT (sqT xs K) k := ⟨_, rfl⟩
              rw [← h1, ← h0] at hs
              rw [← h0] at d0 ⊢
              clear h0
              have hn := HX.out.old (Nat.le_refl w.heap.size)
              have hm : floatBits .mul .f64 (scT xs K k) (scT xs K k) = some (sqT xs K k) := hmu
              have hrun := fun (w : World) => run_float_arith (P := Try.prog) w .mul 22 .f64 _ _ _ hm
              have HS := Lib.hid hs; have HN := Lib.hid hn; have HK := Lib.hid hxk; have H1' := Lib.hid h1; have HD := Lib.hid d0; have HE := Lib.hid hbel
              have HLK := Lib.hid hld
              clear hc hs hn hxk h1 d0 hbel hmu hm hld
              generalize ge xs k = x at *
              generalize scT xs K k = y at *
              generalize sqT xs K k = q at *
              go_wp2_with (first
                | (go_at_call 39; refine (HLK.out _).mono ?_; rintro e w' ⟨rfl, rfl⟩)
                | (go_at_call 54; refine (count_any s0 q s1 w.heap.size _ wr HD.out HS.out).mono ?_; rintro e w' ⟨rfl, rfl⟩))
              go_roundw
              case rel => exact ⟨k + 1, by omega, by go_num, by rw [H1'.out], by rw [← H1'.out]; exact HD.out.set1 _, HK.out.setCell HN.out _, HE.out.setCell (Nat.le_refl _) _⟩
              case measure => simp [intOf]; omega
            · obtain rfl : k = xs.length := by omega
              have HE := Lib.hid hbel
              clear d0 hxk hbel
              go_wp2_with (first
                | (go_at_call 40; refine (HSQ.out _).mono ?_; rintro e w' ⟨rfl, rfl⟩)
                | (go_at_call 39; refine (HLF.out _).mono ?_; rintro e w' ⟨rfl, rfl⟩))
              go_ret2
              exact ⟨by rw [HR.out]; rfl, HE.out⟩

end Go.Proofs.Ytcoaachajdomcaa
