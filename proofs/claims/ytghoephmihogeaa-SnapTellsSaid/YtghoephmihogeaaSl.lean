/- Contracts: Decode for any bytes; whether two factors are the same; live of layer 15. -/
import Derived.Test.YtghoephmihogeaaSj
import Derived.Test.YtghoephmihogeaaSk
import Derived.Test.YtghoephmihogeaaCe
set_option linter.unusedVariables false
namespace Lev
/-- The example's factor, and its bytes. -/
def fE : Fct := ⟨1, [4613937818241073152, 13830554455654793216, 0], 1, 258⟩
def lE : List UInt8 := [81, 1, 0, 1, 1, 2, 64, 8, 0, 0, 0, 0, 0, 0, 191, 240, 0, 0, 0, 0, 0, 0, 0, 0, 0, 0, 0, 0, 0, 0]
theorem fE_ok : fE.ok = true := by decide +kernel
theorem fE_lt : ∀ x ∈ fE.xs, x < 18446744073709551616 := by decide
theorem encE : encL fE = lE := by decide +kernel
theorem zE_ok : Fct.zero.ok = false := by decide +kernel
theorem zE_enc : encL Fct.zero = [] := by decide +kernel
theorem dE0 : decE [] = 9 := by decide +kernel
theorem dE3 : decE (81 :: 1 :: 255 :: 255 :: lE.drop 4) = 2 := by decide +kernel
theorem dE1 : decE lE = 0 ∧ decF lE = fE := by rw [← encE]; exact dec_enc fE_ok fE_lt
theorem dE2 : decE (lE ++ [120]) = 3 := by rw [← encE, dec_more fE_ok fE_lt]; decide
def gE : List UInt8 := [97, 63, 240, 0, 0, 0, 0, 0, 0]
theorem getE1 : getB gE 1 = true ∧ getN gE 1 = 4607182418800017408 := by decide +kernel
theorem getE2 : getB [] 0 = false := by decide +kernel
theorem putE : putL 4607182418800017408 = [63, 240, 0, 0, 0, 0, 0, 0] := by decide +kernel
theorem feqE : feq 4607182418800017408 4607182418800017408 = true := by decide
end Lev
namespace Go.Proofs.Ytghoephmihogeaa
open Go.RowKit Go.Shelf Lev

/-- Decode: the factor of bytes. -/
theorem sdecode_any (s : ByteArray) (hs : s.size ≤ 1000) (w : World) : Calls Try.prog 18 #[.string s] w (DecEnd (bl s) w) := by
  by_cases h6 : s.size < 6
  · exact sdec_h1 s hs h6 w
  · by_cases h0 : lg (bl s) 0 = 81
    · by_cases h1 : lg (bl s) 1 < 1
      · exact sdec_h3 s hs (by omega) h0 h1 w
      · by_cases h2 : 6 < lg (bl s) 1
        · exact sdec_h4 s hs (by omega) h0 h2 w
        · have hh : decH (bl s) = true := decH_iff.2 ⟨by rw [bl_len]; omega, h0, by omega, by omega⟩
          by_cases hl : (s.size : Int) = 6 + 8 * sizeI (lg (bl s) 1)
          · exact sdec_in s hs hh hl w
          · exact sdec_len s hs hh hl w
    · exact sdec_h2 s hs (by omega) h0 w
/-- The document's Decode. -/
theorem rdecode_any (s : ByteArray) (hs : s.size ≤ 1000) (w : World) : Calls Try.prog 19 #[.string s] w (DecEnd (bl s) w) := by
  by_cases h6 : s.size < 6
  · exact rdec_h1 s hs h6 w
  · by_cases h0 : lg (bl s) 0 = 81
    · by_cases h1 : lg (bl s) 1 < 1
      · exact rdec_h3 s hs (by omega) h0 h1 w
      · by_cases h2 : 6 < lg (bl s) 1
        · exact rdec_h4 s hs (by omega) h0 h2 w
        · have hh : decH (bl s) = true := decH_iff.2 ⟨by rw [bl_len]; omega, h0, by omega, by omega⟩
          by_cases hl : (s.size : Int) = 6 + 8 * sizeI (lg (bl s) 1)
          · exact rdec_in s hs hh hl w
          · exact rdec_len s hs hh hl w
    · exact rdec_h2 s hs (by omega) h0 w

theorem slLit2 {W : World} {g : Nat} {t : TypeId} {xs : List Nat} (h : Bk W g t (xs.map (Value.float .f64)).toArray) (hx : ∀ x ∈ xs, x < 18446744073709551616) (hl : xs.length ≤ 9223372036854775807) : SlArg W (some ⟨g, 0, none⟩) xs xs.length := by
  refine ⟨⟨hx, fun _ => ⟨g, 0, rfl, h.lt, fun j hj => ?_⟩⟩, Nat.le_refl _, hl⟩
  rw [Nat.zero_add, h.cell]
  simp [hj]

/-- A decoding whose outcome is known. -/
theorem dec_is {s : ByteArray} {l : List UInt8} {n : Int} {F : Fct} (h : bl s = l) (hd : decE l = n) (hF : decF l = F) (hs : s.size ≤ 1000) (w : World) :
    Calls Try.prog 18 #[.string s] w fun e w' => (∃ (A : Option Addr) (c : Nat), e = .returned (.tuple #[facV F.C A F.xs.length c F.R F.T, .int .i64 n]) ∧ SlArg w' A F.xs c) ∧ Below w.heap.size w w' := by
  subst h
  subst hd
  subst hF
  exact sdecode_any s hs w
theorem bl_mk (l : List UInt8) : bl ⟨l.toArray⟩ = l := rfl
theorem size_mk (l : List UInt8) : (⟨l.toArray⟩ : ByteArray).size = l.length := rfl
theorem enc_is {f : Fct} {l : List UInt8} {b : Bool} (A : Option Addr) (c : Nat) (w : World) (hx : SlArg w A f.xs c) (hl : encL f = l) (hb : f.ok = b) :
    Calls Try.prog 16 #[facV f.C A f.xs.length c f.R f.T] w fun e w' => e = .returned (.tuple #[.string ⟨l.toArray⟩, .bool b]) ∧ Below w.heap.size w w' := by
  subst hl; subst hb; exact sencode_any f A c w hx

attribute [local go_sem] order_lt order_gt order_eq order_ne flt_or_feq flt_or_feq' feqE

theorem facE (A : Option Addr) (c : Nat) : facV fE.C A fE.xs.length c fE.R fE.T = .agg #[.int .i64 1, .slice A 3 c, .int .i64 1, .int .i64 258] := rfl
theorem facZ (A : Option Addr) (c : Nat) : facV Fct.zero.C A Fct.zero.xs.length c Fct.zero.R Fct.zero.T = .agg #[.int .i64 0, .slice A 0 c, .int .i64 0, .int .i64 0] := rfl
theorem strE : ∃ S : ByteArray, S = ⟨lE.toArray⟩ ∧ S.size = 30 ∧ bl S = lE ∧ bl (S ++ ⟨#[120]⟩) = lE ++ [120] ∧ bl ((⟨#[81, 1, 255, 255]⟩ : ByteArray) ++ S.extract 4 30) = 81 :: 1 :: 255 :: 255 :: lE.drop 4 ∧ (S.extract 0 6).toList = [81, 1, 0, 1, 1, 2] ∧ (S ++ ⟨#[120]⟩).size = 31 ∧ ((⟨#[81, 1, 255, 255]⟩ : ByteArray) ++ S.extract 4 30).size = 30 :=
  ⟨_, rfl, by decide, rfl, by decide, by decide, by decide +kernel, by decide, by decide⟩
theorem get_is {s : ByteArray} {i : Int} {v : Nat} {b : Bool} (h : getV s i = .tuple #[.float .f64 v, .bool b]) (hs : s.size ≤ 1000) (w : World) :
    Calls Try.prog 11 #[.string s, .int .i64 i] w fun e w' => e = .returned (.tuple #[.float .f64 v, .bool b]) ∧ Below w.heap.size w w' := by
  rw [← h]; exact sget_any s i hs w
theorem getEV : getV ⟨#[97, 63, 240, 0, 0, 0, 0, 0, 0]⟩ 1 = .tuple #[.float .f64 4607182418800017408, .bool true] := by
  unfold getV getF
  rw [show bl ⟨#[97, 63, 240, 0, 0, 0, 0, 0, 0]⟩ = gE from rfl, getE1.1, if_pos rfl, show (1 : Int).toNat = 1 from rfl, getE1.2]
theorem getEV0 : getV ⟨#[]⟩ 0 = .tuple #[.float .f64 0, .bool false] := by
  unfold getV getF
  rw [show bl ⟨#[]⟩ = [] from rfl, getE2]; rfl
theorem put_is (w : World) : Calls Try.prog 13 #[.float .f64 4607182418800017408] w fun e w' => e = .returned (.string ⟨#[63, 240, 0, 0, 0, 0, 0, 0]⟩) ∧ Below w.heap.size w w' := by
  have h := sput_any 4607182418800017408 (by decide) w
  rw [putE] at h
  exact h

set_option maxRecDepth 100000 in
set_option maxHeartbeats 4000000 in
theorem live15 (w : World) : Calls Try.prog 10 #[] w fun e w' => e = .returned (.bool true) ∧ Below w.heap.size w w' := by
  obtain ⟨S, hS, hsz, hbl, hb1, hb2, hq, hz1, hz2⟩ := strE
  have he := fun A c W h => enc_is (f := fE) A c W h encE fE_ok
  rw [← hS] at he
  have HE := Lib.hid he
  have hz := fun W => enc_is (f := Fct.zero) none 0 W ⟨FlR.nil _ _ _, by decide, by decide⟩ zE_enc zE_ok
  rw [facZ] at hz
  have HZ := Lib.hid hz
  have HD1 := Lib.hid (fun W => dec_is hbl dE1.1 dE1.2 (by omega) W)
  have HD0 := Lib.hid (fun W => dec_is (s := ⟨#[]⟩) (l := []) rfl dE0 (decF_no (by rw [dE0]; decide)) (by decide) W)
  have HD2 := Lib.hid (fun W => dec_is hb1 dE2 (decF_no (by rw [dE2]; decide)) (by omega) W)
  have HD3 := Lib.hid (fun W => dec_is hb2 dE3 (decF_no (by rw [dE3]; decide)) (by omega) W)
  clear hS hbl hb1 hb2 hz1 hz2 he hz
  go_enter Try.func10, Try.ntmps10
  go_wp2_with fail
  have KW := ((Keep.start w).alloc #[.float .f64 4613937818241073152, .float .f64 13830554455654793216, .float .f64 0] 22).alloc #[.int .i64 1, .slice (some ⟨w.heap.size, 0, none⟩) 3 3, .int .i64 1, .int .i64 258] 31
  have hx := slLit2 (xs := [4613937818241073152, 13830554455654793216, 0]) (KW.box (.tail _ (.head _))) (by decide) (by decide)
  refine (HE.out _ _ _ hx).mono ?_
  rintro e w1 ⟨rfl, hb1⟩
  have K1 := Lib.hid ((KW.more hx).call hb1)
  clear KW hx hb1
  go_wp2_with fail
  refine (HD1.out _).mono ?_
  rintro e w2 ⟨⟨A2, c2, rfl, hs2⟩, hb2⟩
  have K2 := Lib.hid ((K1.out.call hb2).more hs2)
  rw [facE]
  clear hs2 hb2 K1
  go_wp2_with fail
  have K3 := Lib.hid (K2.out.alloc #[.int .i64 1, .slice A2 3 c2, .int .i64 1, .int .i64 258] 31)
  clear K2
  refine (HD0.out _).mono ?_
  rintro e w3 ⟨⟨A3, c3, rfl, hs3⟩, hb3⟩
  rw [facZ]
  have K4 := Lib.hid (K3.out.call hb3)
  clear hs3 hb3 K3
  go_wp2_with fail
  have K5 := Lib.hid (K4.out.alloc #[.int .i64 0, .slice A3 0 c3, .int .i64 0, .int .i64 0] 31)
  clear K4
  refine (HD2.out _).mono ?_
  rintro e w4 ⟨⟨A4, c4, rfl, hs4⟩, hb4⟩
  rw [facZ]
  have K6 := Lib.hid (K5.out.call hb4)
  clear hs4 hb4 K5
  go_wp2_with fail
  have K7 := Lib.hid (K6.out.alloc #[.int .i64 0, .slice A4 0 c4, .int .i64 0, .int .i64 0] 31)
  clear K6
  refine (HD3.out _).mono ?_
  rintro e w5 ⟨⟨A5, c5, rfl, hs5⟩, hb5⟩
  rw [facZ]
  have K8 := Lib.hid (K7.out.call hb5)
  clear hs5 hb5 K7
  go_wp2_with fail
  have K9 := Lib.hid (K8.out.alloc #[.int .i64 0, .slice A5 0 c5, .int .i64 0, .int .i64 0] 31)
  clear K8
  refine (HZ.out _).mono ?_
  rintro e w6 ⟨rfl, hb6⟩
  have K10 := Lib.hid (K9.out.call hb6)
  clear hb6 K9
  go_wp2_with fail
  refine (get_is getEV (by decide) _).mono ?_
  rintro e w7 ⟨rfl, hb7⟩
  have K11 := Lib.hid (K10.out.call hb7)
  clear hb7 K10
  go_wp2_with fail
  refine (get_is getEV0 (by decide) _).mono ?_
  rintro e w8 ⟨rfl, hb8⟩
  have K12 := K11.out.call hb8
  clear hb8 K11
  obtain ⟨a0, a1, a2, a3⟩ := (K12.box (.tail _ (.tail _ (.tail _ (.tail _ (.head _)))))).c4
  obtain ⟨b0, b1, b2, b3⟩ := (K12.box (.tail _ (.tail _ (.tail _ (.head _))))).c4
  simp only [World.size_alloc] at a0 a1 a2 a3
  have hsame := fac_same fE (some ⟨w.heap.size, 0, none⟩) A2 3 c2 w8 (K12.arg (.tail _ (.head _))) (K12.arg (.head _))
  rw [facE, facE] at hsame
  have HSA := Lib.hid hsame; have K13 := Lib.hid K12.below
  clear hsame K12
  go_wp2_with fail
  refine HSA.out.mono ?_
  rintro e w9 ⟨rfl, hb9⟩
  have K14 := Lib.hid (Below.chain K13.out hb9)
  clear hb9 K13
  go_wp2_with fail
  refine (put_is _).mono ?_
  rintro e w10 ⟨rfl, hb10⟩
  have K15 := Lib.hid (Below.chain K14.out hb10)
  clear hb10 K14
  go_wp2
  go_ret
  exact ⟨rfl, K15.out⟩

end Go.Proofs.Ytghoephmihogeaa
