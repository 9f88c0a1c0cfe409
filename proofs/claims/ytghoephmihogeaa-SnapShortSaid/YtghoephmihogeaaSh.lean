/- Contracts: a factor's bytes, of the document; both for any factor. -/
import Derived.Test.YtghoephmihogeaaSg
set_option linter.unusedVariables false
namespace Go.Proofs.Ytghoephmihogeaa
open Go.RowKit Go.Shelf Lev

set_option maxRecDepth 100000 in
set_option maxHeartbeats 1000000 in
theorem sencode_no (f : Fct) (A : Option Addr) (c : Nat) (w : World) (hx : SlArg w A f.xs c) (hok : f.ok = false) :
    Calls Try.prog 16 #[facV f.C A f.xs.length c f.R f.T] w fun e w' => e = .returned (.tuple #[.string ⟨#[]⟩, .bool false]) ∧ Below w.heap.size w w' := by
  have HCK := fun W h => check_any f.C A f.xs c f.R f.T W h
  rw [show checkS f.C f.xs f.R f.T = false from hok] at HCK
  have HX := Lib.hid hx
  unfold facV at HCK ⊢
  have HCK := Lib.hid HCK
  clear hx hok
  go_enter Try.func16, Try.ntmps16
  go_wp2_with fail
  have hb0 : Below w.heap.size w (w.alloc (.cells #[.int .i64 f.C, .slice A f.xs.length c, .int .i64 f.R, .int .i64 f.T] 31)) := (Below.refl _ _).alloc (Nat.le_refl _) _
  refine (HCK.out _ (HX.out.below hb0)).mono ?_
  rintro e w1 ⟨rfl, hb1⟩
  have L1 := Lib.hid (Below.chain hb0 hb1)
  clear hb0 hb1
  go_wp2
  go_ret2
  exact ⟨rfl, L1.out⟩

/-- Encode: a factor's bytes. -/
theorem sencode_any (f : Fct) (A : Option Addr) (c : Nat) (w : World) (hx : SlArg w A f.xs c) :
    Calls Try.prog 16 #[facV f.C A f.xs.length c f.R f.T] w fun e w' => e = .returned (.tuple #[.string ⟨(encL f).toArray⟩, .bool f.ok]) ∧ Below w.heap.size w w' := by
  cases h : f.ok
  · have e : encL f = [] := by unfold encL; rw [if_neg (by rw [h]; decide)]
    rw [e]; exact sencode_no f A c w hx h
  · exact sencode_yes f A c w hx h

set_option maxRecDepth 100000 in
set_option maxHeartbeats 1000000 in
theorem rencode_no (f : Fct) (A : Option Addr) (c : Nat) (w : World) (hx : SlArg w A f.xs c) (hok : f.ok = false) :
    Calls Try.prog 17 #[facV f.C A f.xs.length c f.R f.T] w fun e w' => e = .returned (.tuple #[.string ⟨#[]⟩, .bool false]) ∧ Below w.heap.size w w' := by
  have HCK := fun W h => rcheck_any f.C A f.xs c f.R f.T W h
  rw [show checkS f.C f.xs f.R f.T = false from hok] at HCK
  have HX := Lib.hid hx
  unfold facV at HCK ⊢
  have HCK := Lib.hid HCK
  clear hx hok
  go_enter Try.func17, Try.ntmps17
  go_wp2_with fail
  have hb0 : Below w.heap.size w (w.alloc (.cells #[.int .i64 f.C, .slice A f.xs.length c, .int .i64 f.R, .int .i64 f.T] 31)) := (Below.refl _ _).alloc (Nat.le_refl _) _
  refine (HCK.out _ (HX.out.below hb0)).mono ?_
  rintro e w1 ⟨rfl, hb1⟩
  have L1 := Lib.hid (Below.chain hb0 hb1)
  clear hb0 hb1
  go_wp2
  go_ret2
  exact ⟨rfl, L1.out⟩

theorem conv_head (f : Fct) (hok : f.ok = true) (W : World) : (convert 50 9 (.slice (some ⟨W.heap.size, 0, none⟩) 6 6)).run Try.prog (W.alloc (.cells #[.int .u8 81, .int .u8 f.C, .int .u8 (f.R / 256), .int .u8 (f.R % 256), .int .u8 (f.T / 256), .int .u8 (f.T % 256)] 5)) =
    .ok (.string ⟨(encH f).toArray⟩) (W.alloc (.cells #[.int .u8 81, .int .u8 f.C, .int .u8 (f.R / 256), .int .u8 (f.R % 256), .int .u8 (f.T / 256), .int .u8 (f.T % 256)] 5)) := by
  have hb := Bk.new W 5 #[.int .u8 81, .int .u8 f.C, .int .u8 (f.R / 256), .int .u8 (f.R % 256), .int .u8 (f.T / 256), .int .u8 (f.T % 256)]
  have hc := head_cells hok
  refine run_convert_bytes_back (P := Try.prog) _ 50 9 5 ⟨W.heap.size, 0, none⟩ 6 (encH f) Try.underlying50 Try.underlying5 Try.underlying9 (fun j hj => ?_)
  rw [show (⟨W.heap.size, 0, none⟩ : Addr).add j = ⟨W.heap.size, j, none⟩ from by unfold Addr.add; split <;> simp_all, hb.cell]
  have e : #[Value.int .u8 81, .int .u8 f.C, .int .u8 (f.R / 256), .int .u8 (f.R % 256), .int .u8 (f.T / 256), .int .u8 (f.T % 256)] = (Lib.byteCells (encH f)).toArray := by rw [hc]
  rw [e, List.getElem?_toArray]
  unfold Lib.byteCells
  rw [List.getElem?_map, List.getElem?_eq_getElem hj]; rfl
def StrIs (v : Value) (l : List UInt8) : Prop := v = .string ⟨l.toArray⟩
theorem str_app (a b : List UInt8) : (⟨a.toArray⟩ : ByteArray) ++ ⟨b.toArray⟩ = ⟨(a ++ b).toArray⟩ := by
  apply ByteArray.ext
  simp

set_option maxRecDepth 100000 in
set_option maxHeartbeats 4000000 in
theorem rencode_yes (f : Fct) (A : Option Addr) (c : Nat) (w : World) (hx : SlArg w A f.xs c) (hok : f.ok = true) :
    Calls Try.prog 17 #[facV f.C A f.xs.length c f.R f.T] w fun e w' => e = .returned (.tuple #[.string ⟨(encL f).toArray⟩, .bool true]) ∧ Below w.heap.size w w' := by
  obtain ⟨k1, k2, kx, k4, k5, k6, k7, k8, ky⟩ := ok_len hok
  clear kx ky
  have HCK := fun W h => rcheck_any f.C A f.xs c f.R f.T W h
  rw [show checkS f.C f.xs f.R f.T = true from hok] at HCK
  have HSM := Lib.hid (fun j (hj : j < f.xs.length) => putL_fin (small_fin (check_small (C := f.C) (R := f.R) (T := f.T) hok hj)))
  have HCV := conv_head f hok
  have HX := Lib.hid hx
  have HOK := Lib.hid hok
  unfold facV at HCK ⊢
  have HCK := Lib.hid HCK
  clear hx hok
  go_enter Try.func17, Try.ntmps17
  go_wp2_with fail
  have hb0 : Below w.heap.size w (w.alloc (.cells #[.int .i64 f.C, .slice A f.xs.length c, .int .i64 f.R, .int .i64 f.T] 31)) := (Below.refl _ _).alloc (Nat.le_refl _) _
  have hk0 := Bk.new w 31 #[.int .i64 f.C, .slice A f.xs.length c, .int .i64 f.R, .int .i64 f.T]
  refine (HCK.out _ (HX.out.below hb0)).mono ?_
  rintro e w1 ⟨rfl, hb1⟩
  have b1 := hk0.below hb1 (by simp)
  have K1 := Below.chain hb0 hb1
  have z1 : w.heap.size < w1.heap.size := b1.lt
  obtain ⟨a0, a1, a2, a3⟩ := box_cells b1
  have B1 := Lib.hid b1; have L1 := Lib.hid K1
  clear hb0 hk0 hb1 b1 K1
  go_wp2_with fail
  have LW := Lib.hid (L1.out.alloc (by omega) (.cells #[.int .u8 81, .int .u8 f.C, .int .u8 (f.R / 256), .int .u8 (f.R % 256), .int .u8 (f.T / 256), .int .u8 (f.T % 256)] 5))
  have BW := Lib.hid (B1.out.alloc (.cells #[.int .u8 81, .int .u8 f.C, .int .u8 (f.R / 256), .int .u8 (f.R % 256), .int .u8 (f.T / 256), .int .u8 (f.T % 256)] 5))
  clear HCV a0 a1 a2 a3
  go_loopw [4, 5] (fun v i wr => ∃ k : Nat, k ≤ f.xs.length ∧ i = .int .i64 (k : Int) ∧ StrIs v (encH f ++ encX (f.xs.take k)) ∧ Bk wr w.heap.size 31 #[.int .i64 f.C, .slice A f.xs.length c, .int .i64 f.R, .int .i64 f.T] ∧ Below w.heap.size w wr) (fun _ i _ => f.xs.length - (intOf i).toNat)
  case atStart => exact ⟨0, Nat.zero_le _, rfl, by unfold StrIs; rw [List.take_zero]; exact congrArg (fun l => Value.string ⟨List.toArray l⟩) (List.append_nil _).symm, BW.out, LW.out⟩
  case round =>
    obtain ⟨k, hk, rfl, rfl, hB, hL⟩ := hrel
    obtain ⟨a0, a1, a2, a3⟩ := box_cells hB
    have HB := Lib.hid hB; have HL := Lib.hid hL
    by_cases hlt : (k : Int) < (f.xs.length : Int)
    · obtain ⟨bq, off, rfl, hbq, hc⟩ := HX.out.reads.2 (by omega)
      have hcell : wr.cell? ⟨bq, off + k, none⟩ = some (.float .f64 (f.xs[k]?.getD 0)) := (hL.cell (p := ⟨bq, off + k, none⟩) hbq).trans (hc k (by omega))
      have hv64 := HX.out.reads.lt k
      have hp := HSM.out k (by omega)
      have hsn := encX_snoc f.xs k (by omega)
      have HSN := Lib.hid hsn; have HP := Lib.hid hp; have H64 := Lib.hid hv64
      have hzb := hB.lt
      clear hB hL hc hv64 hp hsn
      generalize f.xs[k]?.getD 0 = x at *
      obtain ⟨l0, hl0⟩ : ∃ l0, l0 = encH f ++ encX (f.xs.take k) := ⟨_, rfl⟩
      rw [← hl0]
      have HL0 := Lib.hid hl0
      have hlen : l0.length + (put8 x).length ≤ 9223372036854775807 := by
        rw [put8_len, hl0, List.length_append, encH_len, encX_len, List.length_take]; omega
      clear hl0
      go_wp2_with fail
      refine (rput_any x H64.out _).mono ?_
      rintro e w6 ⟨rfl, hb6⟩
      have B6 := Lib.hid (HB.out.below hb6 hzb)
      have L6 := Lib.hid (Below.chain HL.out hb6)
      rw [HP.out]
      have HAP := str_app l0 (put8 x)
      clear hb6
      go_wp2
      go_roundw
      case rel => exact ⟨k + 1, by omega, by go_num, by unfold StrIs; rw [HSN.out, ← List.append_assoc, ← HL0.out], B6.out, L6.out⟩
      case measure => simp [intOf]; omega
    · obtain rfl : k = f.xs.length := by omega
      rw [List.take_length]
      have HEQ := Lib.hid (encL_eq HOK.out)
      clear hB hL
      go_wp2
      go_ret2
      exact ⟨by rw [HEQ.out]; rfl, HL.out⟩

/-- The document's Encode. -/
theorem rencode_any (f : Fct) (A : Option Addr) (c : Nat) (w : World) (hx : SlArg w A f.xs c) :
    Calls Try.prog 17 #[facV f.C A f.xs.length c f.R f.T] w fun e w' => e = .returned (.tuple #[.string ⟨(encL f).toArray⟩, .bool f.ok]) ∧ Below w.heap.size w w' := by
  cases h : f.ok
  · have e : encL f = [] := by unfold encL; rw [if_neg (by rw [h]; decide)]
    rw [e]; exact rencode_no f A c w hx h
  · exact rencode_yes f A c w hx h

end Go.Proofs.Ytghoephmihogeaa
