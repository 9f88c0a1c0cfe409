/- Contracts: a factor's bytes. -/
import Derived.Test.YtghoephmihogeaaSf
import Derived.Test.YtghoephmihogeaaCj
set_option linter.unusedVariables false
namespace Go.Proofs.Ytghoephmihogeaa
open Go.RowKit Go.Shelf Lev

set_option maxHeartbeats 400000 in
theorem two_any (n : Int) (h0 : 0 ≤ n) (h1 : n ≤ 65535) (w : World) :
    Calls Try.prog 30 #[.int .i64 n] w fun e w' => e = .returned (.slice (some ⟨w.heap.size, 0, none⟩) 2 2) ∧ w' = w.alloc (.cells #[.int .u8 (n / 256), .int .u8 (n % 256)] 5) := by
  go_enter Try.func30, Try.ntmps30
  go_wp2
  go_ret
  exact ⟨rfl, rfl⟩

theorem bAlloc {B b : Nat} {p : Value} {bs : List Value} {w : World} (h : Lib.BuilderAt 57 5 B b p bs w) (o : Obj) : Lib.BuilderAt 57 5 B b p bs (w.alloc o) := by
  have hl := h.lt
  obtain ⟨hB, v, hb, hown, hne⟩ := h
  exact ⟨hB, v, by rw [Lib.alloc_old w o b hl]; exact hb, hown.alloc o, hne⟩
theorem bBelow {B b : Nat} {p : Value} {bs : List Value} {w w' : World} (h : Lib.BuilderAt 57 5 B b p bs w) (hb : Below w.heap.size w w') : Lib.BuilderAt 57 5 B b p bs w' := by
  have hl := h.lt
  obtain ⟨hB, v, hbk, hown, hne⟩ := h
  exact ⟨hB, v, (hb.block b hl).trans hbk, own_below hown hb, hne⟩
theorem box_cells {w : World} {g : Nat} {t : TypeId} {v0 v1 v2 v3 : Value} (h : Bk w g t #[v0, v1, v2, v3]) : w.cell? ⟨g, 0, none⟩ = some v0 ∧ w.cell? ⟨g, 1, none⟩ = some v1 ∧ w.cell? ⟨g, 2, none⟩ = some v2 ∧ w.cell? ⟨g, 3, none⟩ = some v3 := h.c4

/-- The head's bytes, as the code writes them. -/
theorem head_cells {f : Fct} (h : f.ok = true) : Lib.byteCells (encH f) = [.int .u8 81, .int .u8 f.C, .int .u8 (f.R / 256), .int .u8 (f.R % 256), .int .u8 (f.T / 256), .int .u8 (f.T % 256)] := by
  obtain ⟨c1, c2, c3, c4, c5, c6, c7, c8, c9⟩ := ok_len h
  unfold Lib.byteCells encH
  simp only [List.map_cons, List.map_nil]
  rw [u8_nat (by omega) (by omega), u8_nat (by omega) (by omega), u8_nat (by omega) (by omega), u8_nat (by omega) (by omega), u8_nat (by omega) (by omega)]; rfl
theorem cells_app (a b : List UInt8) : Lib.byteCells (a ++ b) = Lib.byteCells a ++ Lib.byteCells b := List.map_append
theorem putL_fin {x : Nat} (h : fin x) : putL x = put8 x := by unfold putL; rw [if_pos h]
theorem encX_snoc (xs : List Nat) (k : Nat) (hk : k < xs.length) : encX (xs.take (k + 1)) = encX (xs.take k) ++ put8 (xs[k]?.getD 0) := by
  rw [List.take_succ_eq_append_getElem hk, List.getElem?_eq_getElem hk]
  unfold encX
  rw [List.flatMap_append]; simp

set_option maxRecDepth 100000 in
set_option maxHeartbeats 4000000 in
theorem sencode_yes (f : Fct) (A : Option Addr) (c : Nat) (w : World) (hx : SlArg w A f.xs c) (hok : f.ok = true) :
    Calls Try.prog 16 #[facV f.C A f.xs.length c f.R f.T] w fun e w' => e = .returned (.tuple #[.string ⟨(encL f).toArray⟩, .bool true]) ∧ Below w.heap.size w w' := by
  obtain ⟨k1, k2, kx, k4, k5, k6, k7, k8, ky⟩ := ok_len hok
  clear kx ky
  have HCK := fun W h => check_any f.C A f.xs c f.R f.T W h
  rw [show checkS f.C f.xs f.R f.T = true from hok] at HCK
  have HSM := Lib.hid (fun j (hj : j < f.xs.length) => putL_fin (small_fin (check_small (C := f.C) (R := f.R) (T := f.T) hok hj)))
  have HD := Lib.hid (head_cells hok)
  have HX := Lib.hid hx
  have HOK := Lib.hid hok
  unfold facV at HCK ⊢
  have HCK := Lib.hid HCK
  clear hx hok
  go_enter Try.func16, Try.ntmps16
  go_wp2_with fail
  have hb0 : Below w.heap.size w (w.alloc (.cells #[.int .i64 f.C, .slice A f.xs.length c, .int .i64 f.R, .int .i64 f.T] 31)) := (Below.refl _ _).alloc (Nat.le_refl _) _
  have hk0 := Bk.new w 31 #[.int .i64 f.C, .slice A f.xs.length c, .int .i64 f.R, .int .i64 f.T]
  refine (HCK.out _ (HX.out.below hb0)).mono ?_
  rintro e w1 ⟨rfl, hb1⟩
  have b1 := hk0.below hb1 (by simp)
  have K1 := Below.chain hb0 hb1
  have z1 : w.heap.size < w1.heap.size := b1.lt
  obtain ⟨a0, a1, a2, a3⟩ := box_cells b1
  have B1 := Lib.hid b1; have L1 := Lib.hid K1
  clear hb0 hk0 hb1 b1 K1
  go_wp2_with fail
  have hfr := Lib.fresh_isBuilder 57 5 w1
  have b1a := B1.out.alloc (.cells #[.pointer none, .slice none 0 0] 57)
  refine (writeByte_any w1.heap.size w1.heap.size [] 81 _ hfr (by decide) (by simp)).mono ?_
  rintro e w2 ⟨rfl, hB2, hb2⟩
  have b2 := b1a.below hb2 z1
  have K2 : Below w1.heap.size w1 w2 := ((Below.refl _ _).alloc (Nat.le_refl _) _).trans hb2
  have z2 : w1.heap.size < w2.heap.size := hB2.lt
  clear a0 a1 a2 a3
  obtain ⟨a0, a1, a2, a3⟩ := box_cells b2
  have B2 := Lib.hid b2; have L2 := Lib.hid K2; have D2 := Lib.hid hB2
  clear hfr b1a hb2 b2 K2 hB2
  go_wp2_with fail
  refine (writeByte_any w1.heap.size w1.heap.size [.int .u8 81] f.C _ (.inr D2.out) (by decide) (Nat.le_of_lt z2)).mono ?_
  rintro e w3 ⟨rfl, hB3, hb3⟩
  have b3 := B2.out.below hb3 z1
  have K3 := L2.out.trans hb3
  have z3 : w1.heap.size < w3.heap.size := hB3.lt
  clear a0 a1 a2 a3
  obtain ⟨a0, a1, a2, a3⟩ := box_cells b3
  have B3 := Lib.hid b3; have L3 := Lib.hid K3; have D3 := Lib.hid hB3
  clear hb3 b3 K3 hB3
  go_wp2_with fail
  refine (two_any f.R k4 (by omega) _).mono ?_
  rintro e w4' ⟨rfl, rfl⟩
  have n4 := Bk.new w3 5 #[.int .u8 (f.R / 256), .int .u8 (f.R % 256)]
  have D3a := bAlloc D3.out (.cells #[.int .u8 (f.R / 256), .int .u8 (f.R % 256)] 5)
  have B3a := B3.out.alloc (.cells #[.int .u8 (f.R / 256), .int .u8 (f.R % 256)] 5)
  go_wp2_with fail
  refine (write_any w1.heap.size w1.heap.size w3.heap.size _ (f.R / 256) (f.R % 256) _ D3a (by simp) (by simp; omega) (n4.cell 0) (n4.cell 1)).mono ?_
  rintro e w4 ⟨rfl, hB4, hb4⟩
  have b4 := B3a.below hb4 z1
  have K4 := (L3.out.alloc (by omega) _).trans hb4
  have z4 : w1.heap.size < w4.heap.size := hB4.lt
  clear a0 a1 a2 a3
  obtain ⟨a0, a1, a2, a3⟩ := box_cells b4
  have B4 := Lib.hid b4; have L4 := Lib.hid K4; have D4 := Lib.hid hB4
  clear hb4 b4 K4 hB4 n4 D3a B3a
  go_wp2_with fail
  refine (two_any f.T k6 (by omega) _).mono ?_
  rintro e w5' ⟨rfl, rfl⟩
  have n5 := Bk.new w4 5 #[.int .u8 (f.T / 256), .int .u8 (f.T % 256)]
  have D4a := bAlloc D4.out (.cells #[.int .u8 (f.T / 256), .int .u8 (f.T % 256)] 5)
  have B4a := B4.out.alloc (.cells #[.int .u8 (f.T / 256), .int .u8 (f.T % 256)] 5)
  go_wp2_with fail
  refine (write_any w1.heap.size w1.heap.size w4.heap.size _ (f.T / 256) (f.T % 256) _ D4a (by simp) (by simp; omega) (n5.cell 0) (n5.cell 1)).mono ?_
  rintro e w5 ⟨rfl, hB5, hb5⟩
  have b5 := B4a.below hb5 z1
  have K5 := (L4.out.alloc (by omega) _).trans hb5
  have z5 : w1.heap.size < w5.heap.size := hB5.lt
  clear a0 a1 a2 a3
  obtain ⟨a0, a1, a2, a3⟩ := box_cells b5
  have B5 := Lib.hid b5; have L5 := Lib.hid K5; have D5 := Lib.hid hB5
  clear hb5 b5 K5 hB5 n5 D4a B4a
  go_wp2_with fail
  have hst : [Value.int .u8 81] ++ [.int .u8 f.C] ++ [.int .u8 (f.R / 256), .int .u8 (f.R % 256)] ++ [.int .u8 (f.T / 256), .int .u8 (f.T % 256)] = Lib.byteCells (encH f ++ encX (f.xs.take 0)) := by
    rw [cells_app, HD.out]; rfl
  have D5' := D5.out
  rw [hst] at D5'
  have D5h := Lib.hid D5'
  have HLW := Lib.hid L1.out
  clear hst D5'
  go_loopw [26] (fun i wr => ∃ k : Nat, k ≤ f.xs.length ∧ i = .int .i64 (k : Int) ∧ Lib.BuilderAt 57 5 w1.heap.size w1.heap.size (.pointer (some ⟨w1.heap.size, 0, none⟩)) (Lib.byteCells (encH f ++ encX (f.xs.take k))) wr ∧ Below w1.heap.size w1 wr) (fun i _ => f.xs.length - (intOf i).toNat)
  case atStart => exact ⟨0, Nat.zero_le _, rfl, D5h.out, L5.out⟩
  case round =>
    obtain ⟨k, hk, rfl, hB, hL⟩ := hrel
    have HB := Lib.hid hB; have HL := Lib.hid hL
    have hz := hB.lt
    by_cases hlt : (k : Int) < (f.xs.length : Int)
    · obtain ⟨bq, off, rfl, hbq, hc⟩ := HX.out.reads.2 (by omega)
      have hcell : wr.cell? ⟨bq, off + k, none⟩ = some (.float .f64 (f.xs[k]?.getD 0)) := (hL.cell (p := ⟨bq, off + k, none⟩) (Nat.lt_trans hbq z1)).trans ((HLW.out.cell (p := ⟨bq, off + k, none⟩) hbq).trans (hc k (by omega)))
      have hv64 := HX.out.reads.lt k
      have hp := HSM.out k (by omega)
      have hsn := encX_snoc f.xs k (by omega)
      have HSN := Lib.hid hsn; have HP := Lib.hid hp; have H64 := Lib.hid hv64
      have hblen : (Lib.byteCells (encH f ++ encX (f.xs.take k))).length ≤ 1000 := by
        unfold Lib.byteCells
        rw [List.length_map, List.length_append, encH_len, encX_len, List.length_take]; omega
      have HBL := Lib.hid hblen
      clear hB hL hc hv64 hp hsn hblen
      generalize f.xs[k]?.getD 0 = x at *
      go_wp2_with fail
      refine (sput_any x H64.out _).mono ?_
      rintro e w6 ⟨rfl, hb6⟩
      have D6 := bBelow HB.out hb6
      have L6 := Below.chain (w := wr) (Below.refl _ _) hb6
      have z6 := D6.lt
      rw [HP.out]
      have hsz : (⟨(put8 x).toArray⟩ : ByteArray).size = 8 := put8_len x
      have HSZ := Lib.hid hsz
      have HD6 := Lib.hid D6; have HL6 := Lib.hid (HL.out.trans (hb6.mono (Nat.le_of_lt hz)))
      clear hsz D6 L6 hb6
      go_wp2_with fail
      refine (writeString_any w1.heap.size w1.heap.size _ ⟨(put8 x).toArray⟩ _ (.inr HD6.out) (by have := HBL.out; have := HSZ.out; omega) (Nat.le_of_lt z6)).mono ?_
      rintro e w7 ⟨rfl, hB7, hb7⟩
      have hB7' : Lib.BuilderAt 57 5 w1.heap.size w1.heap.size (.pointer (some ⟨w1.heap.size, 0, none⟩)) (Lib.byteCells (encH f ++ encX (f.xs.take (k + 1)))) w7 := by
        rw [HSN.out, ← List.append_assoc, cells_app _ (put8 x)]; exact hB7
      have HB7 := Lib.hid hB7'; have HL7 := Lib.hid (HL6.out.trans hb7)
      clear hB7 hB7' hb7
      go_wp2
      go_roundw
      case rel => exact ⟨k + 1, by omega, by go_num, HB7.out, HL7.out⟩
      case measure => simp [intOf]; omega
    · obtain rfl : k = f.xs.length := by omega
      rw [List.take_length] at hB
      have HB2 := Lib.hid hB
      clear hB hL
      go_wp2_with fail
      refine (string_any w1.heap.size w1.heap.size _ _ (.inr HB2.out) (Nat.le_of_lt hz)).mono ?_
      rintro e w8 ⟨rfl, hb8⟩
      have HL8 := Lib.hid (Below.chain HLW.out (HL.out.trans hb8))
      have HEQ := Lib.hid (encL_eq HOK.out)
      clear hb8
      go_wp2
      go_ret2
      exact ⟨by rw [HEQ.out]; rfl, HL8.out⟩

end Go.Proofs.Ytghoephmihogeaa
