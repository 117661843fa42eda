/- Sums and products of numbers of up to 12 digits of 32 bits satisfy the laws of arithmetic. This is part 5 of the proof: texts joined in order (R0 R3 Ge K0 Lib Base NatX X0 K1 KAlgebra LawNatAlgebra). Conditions: each theorem's own. -/
import Derived.Test.YtmjkhbjfacfmcaaDoorYa4
import Derived.Test.YtmjkhbjfacfmcaaDoorProg
import Derived.Shelf.Strings.Builder1
import Derived.Shelf.Strings.Builder2
import Derived.Shelf.Strings.Trim
import Derived.Shelf.Small.Utf8
import Derived.Shelf.Small.Bits
import Derived.Shelf.Small.Strs
import Derived.Shelf.Strings.BuilderF
import Derived.Shelf.Strings.BuilderK
import Derived.Shelf.Strings.Builder2Cap
import Derived.Shelf.Strconv.Atoi
import Derived.Shelf.Strconv.Itoa0
import Derived.Shelf.Strconv.Itoa1
import Derived.Shelf.LaysM
import Derived.Shelf.Strconv.Itoa2
import Derived.Shelf.Strconv.Itoa3
import Derived.Shelf.Strconv.AtoiErrFast
import Derived.Shelf.Strconv.ParseIntEmpty
import Derived.Shelf.Strconv.AtoiFail
import Derived.Shelf.Strconv.Clone
import Derived.Shelf.Strconv.SyntaxError
import Derived.Shelf.LaysC
import Derived.Shelf.Strconv.ToError
import Derived.Shelf.Strconv.Lower
import Derived.Shelf.Strconv.ParseUint10
import Derived.Shelf.Strconv.ParseUint10Empty
import Derived.Shelf.Strconv.ParseUint10Any
import Derived.Shelf.Strconv.ParseInt10
import Derived.Shelf.Strconv.AtoiLong
import Derived.Shelf.Strconv.AtoiInnerAll
import Derived.Shelf.Strconv.RangeError
import Derived.Shelf.Strconv.ToErrorRange
import Derived.Shelf.Strconv.AtoiAll
import Derived.Shelf.Strings.Search1
import Derived.Shelf.Strings.Prefix
import Derived.Shelf.Unicode.Decode
import Derived.Shelf.Strings.Runes
import Derived.Shelf.Strings.AsciiSet
import Derived.Shelf.Bits.Mul64
import Derived.Shelf.Strings.Repeat
import Derived.Shelf.Unicode.DecodeSlow
import Derived.Shelf.Unicode.DecodeAny
import Derived.Shelf.Unicode.DecodeLast
import Derived.Shelf.Strings.BuilderCap
import Derived.Shelf.Strings.SlTrimAscii
import Derived.Lib.AppendIntMem
import Derived.Lib.AtoiErrMem
import Derived.Laws.BitsAllLaws
import Derived.Deep.QuietTactic
import Derived.BigQuiet
import Derived.Test.YtmjkhbjfacfmcaaDoorCards
import Derived.Test.YtmjkhbjfacfmcaaDoorTie
import Derived.WalkKit
import Derived.ProofKit
import Derived.OpenShut
import Derived.ShutString
import Derived.ChangeOld
import Derived.Below
import Derived.SizedLaws
import Derived.Deep.DeepHandedRow
import Derived.Deep.DeepWitnessRowRef
import Derived.Lib.LaidTab
import Derived.Lib.LaidU8
section
namespace Go.Proofs.YtmjkhbjfacfmcaaDoor.VX
open Go Go.RowKit Go.Proofs.YtmjkhbjfacfmcaaDoor.NM Go.Proofs.YtmjkhbjfacfmcaaDoor.NT Go.Proofs.YtmjkhbjfacfmcaaDoor.RV IntWalk
set_option linter.unusedVariables false
set_option linter.unusedSimpArgs false
variable {X : Ctx}
theorem nums_snoc (k : IntKind) (l : List Int) (x : Int) : nums k l ++ [[.sc (.int k x)]] = nums k (l ++ [x]) := by simp [nums]
theorem nums_one (k : IntKind) (x : Int) : [[V.sc (.int k x)]] = nums k [x] := by simp [nums]
abbrev i64s (l : List Int) : V := .sl 1 (nums .i64 l)
theorem without_l0 (l : List Int) (hl : l.length ≤ 1000000000000) {Q : Ex → St → Prop} : ∀ (j : Nat) (S : St), j ≤ l.length → En S [(0, .v (i64s (l.take j)))] → Hp S [] →
    (∀ S' (i : Nat), i ≤ l.length → En S' [(0, .v (i64s (l.take i)))] → S'.heap 100 = none → strip (l.take j) = l.take i → Q (.x 0) S') → wpC X F_waypointref01_without_l0 Q S := by
  intro j
  induction j with
  | zero =>
    intro S hj he hh hQ
    simp only [En, Hp, and_true] at he hh
    refine wpC_round rfl ?_
    simp (disch := omega) only [sd_t, dec_t, dec_f, i64_in, u32_in, u64_in, i64_quo, u32_quo, u64_quo, rem_in, Int.toNat_of_nonneg, go_sem, reduceCtorEq, ↓reduceIte, Nat.reduceEqDiff, Nat.reduceAdd, Nat.reduceSub, Nat.reduceMul, Nat.reduceLT, Nat.reduceLeDiff, Nat.reduceBEq, Nat.reduceBNe, Nat.reducePow, Nat.reduceDiv, Nat.reduceMod, Int.reduceAdd, Int.reduceSub, Int.reduceMul, Int.reduceLT, Int.reduceLE, Int.reduceEq, Int.reduceNe, Int.reduceNeg, Int.reduceToNat, Int.reducePow, Int.reduceDiv, Int.reduceMod, F_waypointref01_without_b0, he, hh, List.take_zero, List.length_nil]
    refine hQ _ 0 (by omega) ?_ ?_ rfl <;> simp only [go_sem, reduceCtorEq, ↓reduceIte, Nat.reduceEqDiff, Nat.reduceAdd, Nat.reduceSub, Nat.reduceMul, Nat.reduceLT, Nat.reduceLeDiff, Nat.reduceBEq, Nat.reduceBNe, Nat.reducePow, Nat.reduceDiv, Nat.reduceMod, Int.reduceAdd, Int.reduceSub, Int.reduceMul, Int.reduceLT, Int.reduceLE, Int.reduceEq, Int.reduceNe, Int.reduceNeg, Int.reduceToNat, Int.reducePow, Int.reduceDiv, Int.reduceMod, he, hh, List.take_zero]
  | succ j ih =>
    intro S hj he hh hQ
    have hs := strip_take_succ l j (by omega)
    have hlen : (l.take (j + 1)).length = j + 1 := by rw [List.length_take]; omega
    have hrd : rd (l.take (j + 1)) (j : Int) = rd l (j : Int) := by rw [rd_nat _ _ (by omega), rd_nat _ _ (by omega), List.getElem_take]
    simp only [En, Hp, and_true] at he hh
    refine wpC_round rfl ?_
    have htt : (l.take (j + 1)).take j = l.take j := by rw [List.take_take, Nat.min_eq_left (by omega)]
    simp (disch := omega) only [sd_t, dec_t, dec_f, i64_in, u32_in, u64_in, i64_quo, u32_quo, u64_quo, rem_in, Int.toNat_of_nonneg, go_sem, reduceCtorEq, ↓reduceIte, Nat.reduceEqDiff, Nat.reduceAdd, Nat.reduceSub, Nat.reduceMul, Nat.reduceLT, Nat.reduceLeDiff, Nat.reduceBEq, Nat.reduceBNe, Nat.reducePow, Nat.reduceDiv, Nat.reduceMod, Int.reduceAdd, Int.reduceSub, Int.reduceMul, Int.reduceLT, Int.reduceLE, Int.reduceEq, Int.reduceNe, Int.reduceNeg, Int.reduceToNat, Int.reducePow, Int.reduceDiv, Int.reduceMod, F_waypointref01_without_b0, he, hh, hlen, hrd, htt]
    refine ⟨fun hz => ?_, fun hz => ?_⟩
    · rw [if_pos hz] at hs
      refine ih _ (by omega) ?_ ?_ fun S' i hi g0 g1 gs => hQ S' i hi g0 g1 (hs.trans gs) <;> simp only [go_sem, reduceCtorEq, ↓reduceIte, Nat.reduceEqDiff, Nat.reduceAdd, Nat.reduceSub, Nat.reduceMul, Nat.reduceLT, Nat.reduceLeDiff, Nat.reduceBEq, Nat.reduceBNe, Nat.reducePow, Nat.reduceDiv, Nat.reduceMod, Int.reduceAdd, Int.reduceSub, Int.reduceMul, Int.reduceLT, Int.reduceLE, Int.reduceEq, Int.reduceNe, Int.reduceNeg, Int.reduceToNat, Int.reducePow, Int.reduceDiv, Int.reduceMod, he, hh]
    · rw [if_neg hz] at hs
      refine hQ _ (j + 1) hj ?_ ?_ hs <;> simp only [go_sem, reduceCtorEq, ↓reduceIte, Nat.reduceEqDiff, Nat.reduceAdd, Nat.reduceSub, Nat.reduceMul, Nat.reduceLT, Nat.reduceLeDiff, Nat.reduceBEq, Nat.reduceBNe, Nat.reducePow, Nat.reduceDiv, Nat.reduceMod, Int.reduceAdd, Int.reduceSub, Int.reduceMul, Int.reduceLT, Int.reduceLE, Int.reduceEq, Int.reduceNe, Int.reduceNeg, Int.reduceToNat, Int.reducePow, Int.reduceDiv, Int.reduceMod, he, hh]
theorem without_fn (hP : X.P = Tryd.prog) (l : List Int) (hl : l.length ≤ 1000000000000) : Fn X 36 [i64s l] (i64s (strip l)) := by
  refine W_waypointref01_without hP rfl ?_
  simp (disch := omega) only [sd_t, dec_t, dec_f, i64_in, u32_in, u64_in, i64_quo, u32_quo, u64_quo, rem_in, Int.toNat_of_nonneg, go_sem, reduceCtorEq, ↓reduceIte, Nat.reduceEqDiff, Nat.reduceAdd, Nat.reduceSub, Nat.reduceMul, Nat.reduceLT, Nat.reduceLeDiff, Nat.reduceBEq, Nat.reduceBNe, Nat.reducePow, Nat.reduceDiv, Nat.reduceMod, Int.reduceAdd, Int.reduceSub, Int.reduceMul, Int.reduceLT, Int.reduceLE, Int.reduceEq, Int.reduceNe, Int.reduceNeg, Int.reduceToNat, Int.reducePow, Int.reduceDiv, Int.reduceMod, F_waypointref01_without]
  refine without_l0 l hl l.length _ (by omega) ?_ ?_ fun S i hi he hh hs => ?_
  · simp only [go_sem, reduceCtorEq, ↓reduceIte, Nat.reduceEqDiff, Nat.reduceAdd, Nat.reduceSub, Nat.reduceMul, Nat.reduceLT, Nat.reduceLeDiff, Nat.reduceBEq, Nat.reduceBNe, Nat.reducePow, Nat.reduceDiv, Nat.reduceMod, Int.reduceAdd, Int.reduceSub, Int.reduceMul, Int.reduceLT, Int.reduceLE, Int.reduceEq, Int.reduceNe, Int.reduceNeg, Int.reduceToNat, Int.reducePow, Int.reduceDiv, Int.reduceMod, List.take_length]
  · simp only [go_sem, reduceCtorEq, ↓reduceIte, Nat.reduceEqDiff, Nat.reduceAdd, Nat.reduceSub, Nat.reduceMul, Nat.reduceLT, Nat.reduceLeDiff, Nat.reduceBEq, Nat.reduceBNe, Nat.reducePow, Nat.reduceDiv, Nat.reduceMod, Int.reduceAdd, Int.reduceSub, Int.reduceMul, Int.reduceLT, Int.reduceLE, Int.reduceEq, Int.reduceNe, Int.reduceNeg, Int.reduceToNat, Int.reducePow, Int.reduceDiv, Int.reduceMod]
  rw [List.take_length] at hs
  simp only [En, Hp, and_true] at he
  have hlen : (l.take i).length = i := by rw [List.length_take]; omega
  have htt : (l.take i).take i = l.take i := by rw [List.take_take, Nat.min_self]
  simp (disch := omega) only [sd_t, dec_t, dec_f, i64_in, u32_in, u64_in, i64_quo, u32_quo, u64_quo, rem_in, Int.toNat_of_nonneg, go_sem, reduceCtorEq, ↓reduceIte, Nat.reduceEqDiff, Nat.reduceAdd, Nat.reduceSub, Nat.reduceMul, Nat.reduceLT, Nat.reduceLeDiff, Nat.reduceBEq, Nat.reduceBNe, Nat.reducePow, Nat.reduceDiv, Nat.reduceMod, Int.reduceAdd, Int.reduceSub, Int.reduceMul, Int.reduceLT, Int.reduceLE, Int.reduceEq, Int.reduceNe, Int.reduceNeg, Int.reduceToNat, Int.reducePow, Int.reduceDiv, Int.reduceMod, F_waypointref01_without_k0, R_waypointref01_without, he, hh, hs, hlen, htt]
theorem without_nat (hP : X.P = Tryd.prog) {l : List Int} {n : Nat} (hl : l.length ≤ 1000000000000) (hd : Dig 1000000 l) (hn : vl 1000000 l = n) : Fn X 36 [i64s l] (i64s (dg 1000000 n)) := by
  have h := without_fn hP l hl
  rwa [strip6 hd, hn, Int.toNat_natCast] at h
theorem carried_l0 (l : List Int) (hl : Big l) (hn : l.length ≤ 100000000000) {Q : Ex → St → Prop} (hQ : ∀ S o, Dig 1000000 o → o.length ≤ 1000000000000 → vl 1000000 o = vl 1000000 l → En S [(3, .os 100 0 o.length)] → Hp S [(100, .p 3 1 (nums .i64 o))] → Q (.x 0) S) :
    ∀ (m i : Nat) (c : Int) (o : List Int) (S : St), l.length + 3 - i = m → 0 ≤ c → c ≤ 10000000000000 → o.length = i → Dig 1000000 o → (l.length ≤ i → i + (dg 1000000 c.toNat).length ≤ l.length + 3) → Hold (vl 1000000 o + 1000000 ^ i * c = vl 1000000 (l.take i)) →
    En S [(0, .v (i64s l)), (3, .os 100 0 i), (4, i64 c), (5, i64 i)] → Hp S [(100, .p 3 1 (nums .i64 o))] → wpC X F_waypointref01_carried_l0 Q S := by
  intro m
  induction m using Nat.strongRecOn with
  | _ m ih =>
    intro i c o S hi c0 c1 ho hd hdl hv he hh
    simp only [En, Hp, and_true] at he hh
    refine wpC_round rfl ?_
    have hx := hl.rd i
    have hlen' : ∀ x, (o ++ [x]).length = i + 1 := by intro x; simp [ho]
    by_cases hin : i < l.length
    · have e1 : (c + rd l i) = (c + rd l i) % 1000000 + 1000000 * ((c + rd l i) / 1000000) := by omega
      simp (disch := omega) only [sd_t, dec_t, dec_f, i64_in, u32_in, u64_in, i64_quo, u32_quo, u64_quo, rem_in, Int.toNat_of_nonneg, go_sem, reduceCtorEq, ↓reduceIte, Nat.reduceEqDiff, Nat.reduceAdd, Nat.reduceSub, Nat.reduceMul, Nat.reduceLT, Nat.reduceLeDiff, Nat.reduceBEq, Nat.reduceBNe, Nat.reducePow, Nat.reduceDiv, Nat.reduceMod, Int.reduceAdd, Int.reduceSub, Int.reduceMul, Int.reduceLT, Int.reduceLE, Int.reduceEq, Int.reduceNe, Int.reduceNeg, Int.reduceToNat, Int.reducePow, Int.reduceDiv, Int.reduceMod, F_waypointref01_carried_b0, he, hh, ho, hlen', List.take_of_length_le, nums_snoc]
      refine ih _ ?_ (i + 1) ((c + rd l i) / 1000000) (o ++ [(c + rd l i) % 1000000]) _ rfl (by omega) (by omega) (hlen' _) (Dig.append hd (Dig.cons (by omega) (by omega) (Dig.nil _))) ?_ ?_ ?_ ?_
      · omega
      · intro h; have := dg6_len (c := (c + rd l i) / 1000000) (by omega); omega
      · unfold Hold at hv ⊢
        rw [vl_snoc, ho, Int.pow_succ, vl_take_succ, ← hv, Int.add_assoc, alg_carry e1, Int.mul_add, Int.add_assoc]
      · simp only [go_sem, reduceCtorEq, ↓reduceIte, Nat.reduceEqDiff, Nat.reduceAdd, Nat.reduceSub, Nat.reduceMul, Nat.reduceLT, Nat.reduceLeDiff, Nat.reduceBEq, Nat.reduceBNe, Nat.reducePow, Nat.reduceDiv, Nat.reduceMod, Int.reduceAdd, Int.reduceSub, Int.reduceMul, Int.reduceLT, Int.reduceLE, Int.reduceEq, Int.reduceNe, Int.reduceNeg, Int.reduceToNat, Int.reducePow, Int.reduceDiv, Int.reduceMod, he, hh]
      · simp only [go_sem, reduceCtorEq, ↓reduceIte, Nat.reduceEqDiff, Nat.reduceAdd, Nat.reduceSub, Nat.reduceMul, Nat.reduceLT, Nat.reduceLeDiff, Nat.reduceBEq, Nat.reduceBNe, Nat.reducePow, Nat.reduceDiv, Nat.reduceMod, Int.reduceAdd, Int.reduceSub, Int.reduceMul, Int.reduceLT, Int.reduceLE, Int.reduceEq, Int.reduceNe, Int.reduceNeg, Int.reduceToNat, Int.reducePow, Int.reduceDiv, Int.reduceMod, he, hh]
    · have hdl := hdl (by omega)
      by_cases h0 : 0 < c
      · have hdg : (dg 1000000 c.toNat).length = (dg 1000000 (c.toNat / 1000000)).length + 1 := by rw [dg_pos (by omega) (by omega), List.length_cons]
        have e2 : c.toNat / 1000000 = (c / 1000000).toNat := by omega
        rw [e2] at hdg
        have e1 : c = c % 1000000 + 1000000 * (c / 1000000) := by omega
        simp (disch := omega) only [sd_t, dec_t, dec_f, i64_in, u32_in, u64_in, i64_quo, u32_quo, u64_quo, rem_in, Int.toNat_of_nonneg, go_sem, reduceCtorEq, ↓reduceIte, Nat.reduceEqDiff, Nat.reduceAdd, Nat.reduceSub, Nat.reduceMul, Nat.reduceLT, Nat.reduceLeDiff, Nat.reduceBEq, Nat.reduceBNe, Nat.reducePow, Nat.reduceDiv, Nat.reduceMod, Int.reduceAdd, Int.reduceSub, Int.reduceMul, Int.reduceLT, Int.reduceLE, Int.reduceEq, Int.reduceNe, Int.reduceNeg, Int.reduceToNat, Int.reducePow, Int.reduceDiv, Int.reduceMod, F_waypointref01_carried_b0, he, hh, ho, hlen', List.take_of_length_le, nums_snoc]
        refine ih _ ?_ (i + 1) (c / 1000000) (o ++ [c % 1000000]) _ rfl (by omega) (by omega) (hlen' _) (Dig.append hd (Dig.cons (by omega) (by omega) (Dig.nil _))) ?_ ?_ ?_ ?_
        · omega
        · intro h; omega
        · unfold Hold at hv ⊢
          rw [vl_take_all _ _ _ (by omega)] at hv
          rw [vl_snoc, ho, Int.pow_succ, vl_take_all _ _ _ (by omega), ← hv, Int.add_assoc, alg_carry e1]
        · simp only [go_sem, reduceCtorEq, ↓reduceIte, Nat.reduceEqDiff, Nat.reduceAdd, Nat.reduceSub, Nat.reduceMul, Nat.reduceLT, Nat.reduceLeDiff, Nat.reduceBEq, Nat.reduceBNe, Nat.reducePow, Nat.reduceDiv, Nat.reduceMod, Int.reduceAdd, Int.reduceSub, Int.reduceMul, Int.reduceLT, Int.reduceLE, Int.reduceEq, Int.reduceNe, Int.reduceNeg, Int.reduceToNat, Int.reducePow, Int.reduceDiv, Int.reduceMod, he, hh]
        · simp only [go_sem, reduceCtorEq, ↓reduceIte, Nat.reduceEqDiff, Nat.reduceAdd, Nat.reduceSub, Nat.reduceMul, Nat.reduceLT, Nat.reduceLeDiff, Nat.reduceBEq, Nat.reduceBNe, Nat.reducePow, Nat.reduceDiv, Nat.reduceMod, Int.reduceAdd, Int.reduceSub, Int.reduceMul, Int.reduceLT, Int.reduceLE, Int.reduceEq, Int.reduceNe, Int.reduceNeg, Int.reduceToNat, Int.reducePow, Int.reduceDiv, Int.reduceMod, he, hh]
      · obtain rfl : c = 0 := by omega
        unfold Hold at hv
        rw [vl_take_all _ _ _ (by omega), Int.mul_zero, Int.add_zero] at hv
        simp (disch := omega) only [sd_t, dec_t, dec_f, i64_in, u32_in, u64_in, i64_quo, u32_quo, u64_quo, rem_in, Int.toNat_of_nonneg, go_sem, reduceCtorEq, ↓reduceIte, Nat.reduceEqDiff, Nat.reduceAdd, Nat.reduceSub, Nat.reduceMul, Nat.reduceLT, Nat.reduceLeDiff, Nat.reduceBEq, Nat.reduceBNe, Nat.reducePow, Nat.reduceDiv, Nat.reduceMod, Int.reduceAdd, Int.reduceSub, Int.reduceMul, Int.reduceLT, Int.reduceLE, Int.reduceEq, Int.reduceNe, Int.reduceNeg, Int.reduceToNat, Int.reducePow, Int.reduceDiv, Int.reduceMod, F_waypointref01_carried_b0, he, hh, ho, hlen']
        refine hQ _ o hd (by omega) hv ?_ ?_ <;> simp only [go_sem, reduceCtorEq, ↓reduceIte, Nat.reduceEqDiff, Nat.reduceAdd, Nat.reduceSub, Nat.reduceMul, Nat.reduceLT, Nat.reduceLeDiff, Nat.reduceBEq, Nat.reduceBNe, Nat.reducePow, Nat.reduceDiv, Nat.reduceMod, Int.reduceAdd, Int.reduceSub, Int.reduceMul, Int.reduceLT, Int.reduceLE, Int.reduceEq, Int.reduceNe, Int.reduceNeg, Int.reduceToNat, Int.reducePow, Int.reduceDiv, Int.reduceMod, he, hh, ho]
theorem carried_fn (hP : X.P = Tryd.prog) {l : List Int} {n : Nat} (hl : Big l) (hn : l.length ≤ 100000000000) (hv : vl 1000000 l = n) : Fn X 37 [i64s l] (i64s (dg 1000000 n)) := by
  refine W_waypointref01_carried hP rfl ?_
  simp (disch := omega) only [sd_t, dec_t, dec_f, i64_in, u32_in, u64_in, i64_quo, u32_quo, u64_quo, rem_in, Int.toNat_of_nonneg, go_sem, reduceCtorEq, ↓reduceIte, Nat.reduceEqDiff, Nat.reduceAdd, Nat.reduceSub, Nat.reduceMul, Nat.reduceLT, Nat.reduceLeDiff, Nat.reduceBEq, Nat.reduceBNe, Nat.reducePow, Nat.reduceDiv, Nat.reduceMod, Int.reduceAdd, Int.reduceSub, Int.reduceMul, Int.reduceLT, Int.reduceLE, Int.reduceEq, Int.reduceNe, Int.reduceNeg, Int.reduceToNat, Int.reducePow, Int.reduceDiv, Int.reduceMod, F_waypointref01_carried]
  refine carried_l0 l hl hn ?_ _ 0 0 [] _ rfl (by omega) (by omega) rfl (Dig.nil _) ?_ ?_ ?_ ?_
  · intro S o hd ho hv2 he hh
    simp only [En, Hp, and_true] at he hh
    simp (disch := omega) only [sd_t, dec_t, dec_f, i64_in, u32_in, u64_in, i64_quo, u32_quo, u64_quo, rem_in, Int.toNat_of_nonneg, go_sem, reduceCtorEq, ↓reduceIte, Nat.reduceEqDiff, Nat.reduceAdd, Nat.reduceSub, Nat.reduceMul, Nat.reduceLT, Nat.reduceLeDiff, Nat.reduceBEq, Nat.reduceBNe, Nat.reducePow, Nat.reduceDiv, Nat.reduceMod, Int.reduceAdd, Int.reduceSub, Int.reduceMul, Int.reduceLT, Int.reduceLE, Int.reduceEq, Int.reduceNe, Int.reduceNeg, Int.reduceToNat, Int.reducePow, Int.reduceDiv, Int.reduceMod, F_waypointref01_carried_k0, R_waypointref01_carried, he, hh]
    refine cp_of (without_nat hP ho hd (hv2.trans hv)) (by (simp [List.take_of_length_le])) ?_
    simp (disch := omega) only [sd_t, dec_t, dec_f, i64_in, u32_in, u64_in, i64_quo, u32_quo, u64_quo, rem_in, Int.toNat_of_nonneg, go_sem, reduceCtorEq, ↓reduceIte, Nat.reduceEqDiff, Nat.reduceAdd, Nat.reduceSub, Nat.reduceMul, Nat.reduceLT, Nat.reduceLeDiff, Nat.reduceBEq, Nat.reduceBNe, Nat.reducePow, Nat.reduceDiv, Nat.reduceMod, Int.reduceAdd, Int.reduceSub, Int.reduceMul, Int.reduceLT, Int.reduceLE, Int.reduceEq, Int.reduceNe, Int.reduceNeg, Int.reduceToNat, Int.reducePow, Int.reduceDiv, Int.reduceMod, he, hh, List.take_of_length_le]
  · intro h; simp [dg_zero]
  · unfold Hold; simp [vl]
  · simp only [go_sem, reduceCtorEq, ↓reduceIte, Nat.reduceEqDiff, Nat.reduceAdd, Nat.reduceSub, Nat.reduceMul, Nat.reduceLT, Nat.reduceLeDiff, Nat.reduceBEq, Nat.reduceBNe, Nat.reducePow, Nat.reduceDiv, Nat.reduceMod, Int.reduceAdd, Int.reduceSub, Int.reduceMul, Int.reduceLT, Int.reduceLE, Int.reduceEq, Int.reduceNe, Int.reduceNeg, Int.reduceToNat, Int.reducePow, Int.reduceDiv, Int.reduceMod]
  · simp only [go_sem, reduceCtorEq, ↓reduceIte, Nat.reduceEqDiff, Nat.reduceAdd, Nat.reduceSub, Nat.reduceMul, Nat.reduceLT, Nat.reduceLeDiff, Nat.reduceBEq, Nat.reduceBNe, Nat.reducePow, Nat.reduceDiv, Nat.reduceMod, Int.reduceAdd, Int.reduceSub, Int.reduceMul, Int.reduceLT, Int.reduceLE, Int.reduceEq, Int.reduceNe, Int.reduceNeg, Int.reduceToNat, Int.reducePow, Int.reduceDiv, Int.reduceMod]
    rfl
theorem times_l0 (l : List Int) (x : Nat) (hl : Dig 1000000 l) (hn : l.length ≤ 100000000000) (x1 : x ≤ 9000000000000) {Q : Ex → St → Prop} (hQ : ∀ S o, Big o → o.length = l.length → vl 1000000 o = vl 1000000 l * x → En S [(5, .os 100 0 o.length)] → Hp S [(100, .p 3 1 (nums .i64 o))] → Q (.x 0) S) :
    ∀ (m i : Nat) (o : List Int) (S : St), m + i = l.length → o.length = i → Big o → Hold (vl 1000000 o = vl 1000000 (l.take i) * x) →
    En S [(0, .v (i64s l)), (1, i64 x), (5, .os 100 0 i), (6, i64 i)] → Hp S [(100, .p 3 1 (nums .i64 o))] → wpC X F_waypointref01_times_l0 Q S := by
  intro m
  induction m with
  | zero =>
    intro i o S hi ho hb hv he hh
    unfold Hold at hv
    rw [vl_take_all _ _ _ (by omega)] at hv
    simp only [En, Hp, and_true] at he hh
    refine wpC_round rfl ?_
    simp (disch := omega) only [sd_t, dec_t, dec_f, i64_in, u32_in, u64_in, i64_quo, u32_quo, u64_quo, rem_in, Int.toNat_of_nonneg, go_sem, reduceCtorEq, ↓reduceIte, Nat.reduceEqDiff, Nat.reduceAdd, Nat.reduceSub, Nat.reduceMul, Nat.reduceLT, Nat.reduceLeDiff, Nat.reduceBEq, Nat.reduceBNe, Nat.reducePow, Nat.reduceDiv, Nat.reduceMod, Int.reduceAdd, Int.reduceSub, Int.reduceMul, Int.reduceLT, Int.reduceLE, Int.reduceEq, Int.reduceNe, Int.reduceNeg, Int.reduceToNat, Int.reducePow, Int.reduceDiv, Int.reduceMod, F_waypointref01_times_b0, he, hh]
    refine hQ _ o hb (by omega) hv ?_ ?_ <;> simp only [go_sem, reduceCtorEq, ↓reduceIte, Nat.reduceEqDiff, Nat.reduceAdd, Nat.reduceSub, Nat.reduceMul, Nat.reduceLT, Nat.reduceLeDiff, Nat.reduceBEq, Nat.reduceBNe, Nat.reducePow, Nat.reduceDiv, Nat.reduceMod, Int.reduceAdd, Int.reduceSub, Int.reduceMul, Int.reduceLT, Int.reduceLE, Int.reduceEq, Int.reduceNe, Int.reduceNeg, Int.reduceToNat, Int.reducePow, Int.reduceDiv, Int.reduceMod, he, hh, ho]
  | succ m ih =>
    intro i o S hi ho hb hv he hh
    have hx := hl.rd (by omega) i
    have p0 : 0 ≤ rd l (i : Int) * x := Int.mul_nonneg hx.1 (by omega)
    have p1 : rd l (i : Int) * x ≤ 999999 * 9000000000000 := Int.mul_le_mul (by omega) (by omega) (by omega) (by omega)
    have hlen' : ∀ x, (o ++ [x]).length = i + 1 := by intro x; simp [ho]
    simp only [En, Hp, and_true] at he hh
    refine wpC_round rfl ?_
    simp (disch := omega) only [sd_t, dec_t, dec_f, i64_in, u32_in, u64_in, i64_quo, u32_quo, u64_quo, rem_in, Int.toNat_of_nonneg, go_sem, reduceCtorEq, ↓reduceIte, Nat.reduceEqDiff, Nat.reduceAdd, Nat.reduceSub, Nat.reduceMul, Nat.reduceLT, Nat.reduceLeDiff, Nat.reduceBEq, Nat.reduceBNe, Nat.reducePow, Nat.reduceDiv, Nat.reduceMod, Int.reduceAdd, Int.reduceSub, Int.reduceMul, Int.reduceLT, Int.reduceLE, Int.reduceEq, Int.reduceNe, Int.reduceNeg, Int.reduceToNat, Int.reducePow, Int.reduceDiv, Int.reduceMod, F_waypointref01_times_b0, he, hh, ho, hlen', List.take_of_length_le, nums_snoc]
    refine ih (i + 1) (o ++ [rd l i * x]) _ (by omega) (hlen' _) ?_ ?_ ?_ ?_
    · intro y hy
      rcases List.mem_append.1 hy with hy | hy
      · exact hb y hy
      · rw [List.mem_singleton.1 hy]; exact ⟨p0, by omega⟩
    · unfold Hold at hv ⊢
      rw [vl_snoc, vl_take_succ, hv, ho, Int.add_mul, Int.mul_assoc]
    · simp only [go_sem, reduceCtorEq, ↓reduceIte, Nat.reduceEqDiff, Nat.reduceAdd, Nat.reduceSub, Nat.reduceMul, Nat.reduceLT, Nat.reduceLeDiff, Nat.reduceBEq, Nat.reduceBNe, Nat.reducePow, Nat.reduceDiv, Nat.reduceMod, Int.reduceAdd, Int.reduceSub, Int.reduceMul, Int.reduceLT, Int.reduceLE, Int.reduceEq, Int.reduceNe, Int.reduceNeg, Int.reduceToNat, Int.reducePow, Int.reduceDiv, Int.reduceMod, he, hh]
    · simp only [go_sem, reduceCtorEq, ↓reduceIte, Nat.reduceEqDiff, Nat.reduceAdd, Nat.reduceSub, Nat.reduceMul, Nat.reduceLT, Nat.reduceLeDiff, Nat.reduceBEq, Nat.reduceBNe, Nat.reducePow, Nat.reduceDiv, Nat.reduceMod, Int.reduceAdd, Int.reduceSub, Int.reduceMul, Int.reduceLT, Int.reduceLE, Int.reduceEq, Int.reduceNe, Int.reduceNeg, Int.reduceToNat, Int.reducePow, Int.reduceDiv, Int.reduceMod, he, hh]
theorem times_fn (hP : X.P = Tryd.prog) (a x : Nat) (hn : (dg 1000000 a).length ≤ 100000000000) (x1 : x ≤ 9000000000000) : Fn X 47 [i64s (dg 1000000 a), .sc (.int .i64 x)] (i64s (dg 1000000 (a * x))) := by
  refine W_waypointref01_times hP rfl ?_
  simp (disch := omega) only [sd_t, dec_t, dec_f, i64_in, u32_in, u64_in, i64_quo, u32_quo, u64_quo, rem_in, Int.toNat_of_nonneg, go_sem, reduceCtorEq, ↓reduceIte, Nat.reduceEqDiff, Nat.reduceAdd, Nat.reduceSub, Nat.reduceMul, Nat.reduceLT, Nat.reduceLeDiff, Nat.reduceBEq, Nat.reduceBNe, Nat.reducePow, Nat.reduceDiv, Nat.reduceMod, Int.reduceAdd, Int.reduceSub, Int.reduceMul, Int.reduceLT, Int.reduceLE, Int.reduceEq, Int.reduceNe, Int.reduceNeg, Int.reduceToNat, Int.reducePow, Int.reduceDiv, Int.reduceMod, F_waypointref01_times]
  refine times_l0 (dg 1000000 a) x (dig6 a) hn x1 ?_ (dg 1000000 a).length 0 [] _ rfl rfl (by intro y hy; cases hy) (by unfold Hold; simp [vl]) ?_ ?_
  · intro S o hb ho hv he hh
    simp only [En, Hp, and_true] at he hh
    rw [vl6] at hv
    simp (disch := omega) only [sd_t, dec_t, dec_f, i64_in, u32_in, u64_in, i64_quo, u32_quo, u64_quo, rem_in, Int.toNat_of_nonneg, go_sem, reduceCtorEq, ↓reduceIte, Nat.reduceEqDiff, Nat.reduceAdd, Nat.reduceSub, Nat.reduceMul, Nat.reduceLT, Nat.reduceLeDiff, Nat.reduceBEq, Nat.reduceBNe, Nat.reducePow, Nat.reduceDiv, Nat.reduceMod, Int.reduceAdd, Int.reduceSub, Int.reduceMul, Int.reduceLT, Int.reduceLE, Int.reduceEq, Int.reduceNe, Int.reduceNeg, Int.reduceToNat, Int.reducePow, Int.reduceDiv, Int.reduceMod, F_waypointref01_times_k0, R_waypointref01_times, he, hh]
    refine cp_of (carried_fn hP hb (by omega) (n := a * x) (by rw [hv]; simp)) (by (simp [List.take_of_length_le])) ?_
    simp (disch := omega) only [sd_t, dec_t, dec_f, i64_in, u32_in, u64_in, i64_quo, u32_quo, u64_quo, rem_in, Int.toNat_of_nonneg, go_sem, reduceCtorEq, ↓reduceIte, Nat.reduceEqDiff, Nat.reduceAdd, Nat.reduceSub, Nat.reduceMul, Nat.reduceLT, Nat.reduceLeDiff, Nat.reduceBEq, Nat.reduceBNe, Nat.reducePow, Nat.reduceDiv, Nat.reduceMod, Int.reduceAdd, Int.reduceSub, Int.reduceMul, Int.reduceLT, Int.reduceLE, Int.reduceEq, Int.reduceNe, Int.reduceNeg, Int.reduceToNat, Int.reducePow, Int.reduceDiv, Int.reduceMod, he, hh]
  · simp only [go_sem, reduceCtorEq, ↓reduceIte, Nat.reduceEqDiff, Nat.reduceAdd, Nat.reduceSub, Nat.reduceMul, Nat.reduceLT, Nat.reduceLeDiff, Nat.reduceBEq, Nat.reduceBNe, Nat.reducePow, Nat.reduceDiv, Nat.reduceMod, Int.reduceAdd, Int.reduceSub, Int.reduceMul, Int.reduceLT, Int.reduceLE, Int.reduceEq, Int.reduceNe, Int.reduceNeg, Int.reduceToNat, Int.reducePow, Int.reduceDiv, Int.reduceMod]
  · simp only [go_sem, reduceCtorEq, ↓reduceIte, Nat.reduceEqDiff, Nat.reduceAdd, Nat.reduceSub, Nat.reduceMul, Nat.reduceLT, Nat.reduceLeDiff, Nat.reduceBEq, Nat.reduceBNe, Nat.reducePow, Nat.reduceDiv, Nat.reduceMod, Int.reduceAdd, Int.reduceSub, Int.reduceMul, Int.reduceLT, Int.reduceLE, Int.reduceEq, Int.reduceNe, Int.reduceNeg, Int.reduceToNat, Int.reducePow, Int.reduceDiv, Int.reduceMod]
    rfl
theorem Of_l0R (n0 : Nat) {Q : Ex → St → Prop} (hQ : ∀ S o, Dig 1000000 o → o.length ≤ 100 → vl 1000000 o = n0 → En S [(3, .os 100 0 o.length)] → Hp S [(100, .p 3 1 (nums .i64 o))] → Q (.x 0) S) :
    ∀ (n i : Nat) (o : List Int) (S : St), n < 18446744073709551616 → o.length = i → Dig 1000000 o → i + (dg 1000000 n).length ≤ 100 → Hold (vl 1000000 o + 1000000 ^ i * n = n0) →
    En S [(0, u64 n), (3, .os 100 0 i)] → Hp S [(100, .p 3 1 (nums .i64 o))] → wpC X F_waypointref01_Of_l0 Q S := by
  intro n
  induction n using Nat.strongRecOn with
  | _ n ih =>
    intro i o S hn ho hd hlen hv he hh
    have hlen' : ∀ x, (o ++ [x]).length = i + 1 := by intro x; simp [ho]
    simp only [En, Hp, and_true] at he hh
    refine wpC_round rfl ?_
    by_cases h0 : 0 < n
    · have hdg : (dg 1000000 n).length = (dg 1000000 (n / 1000000)).length + 1 := by rw [dg_pos (by omega) h0, List.length_cons]
      simp (disch := omega) only [sd_t, dec_t, dec_f, i64_in, u32_in, u64_in, i64_quo, u32_quo, u64_quo, rem_in, Int.toNat_of_nonneg, go_sem, reduceCtorEq, ↓reduceIte, Nat.reduceEqDiff, Nat.reduceAdd, Nat.reduceSub, Nat.reduceMul, Nat.reduceLT, Nat.reduceLeDiff, Nat.reduceBEq, Nat.reduceBNe, Nat.reducePow, Nat.reduceDiv, Nat.reduceMod, Int.reduceAdd, Int.reduceSub, Int.reduceMul, Int.reduceLT, Int.reduceLE, Int.reduceEq, Int.reduceNe, Int.reduceNeg, Int.reduceToNat, Int.reducePow, Int.reduceDiv, Int.reduceMod, F_waypointref01_Of_b0, he, hh, ho, hlen', List.take_of_length_le, nums_snoc]
      refine ih (n / 1000000) (by omega) (i + 1) (o ++ [((n : Int) % 1000000)]) _ (by omega) (hlen' _) (Dig.append hd (Dig.cons (by omega) (by omega) (Dig.nil _))) (by omega) ?_ ?_ ?_
      · unfold Hold at hv ⊢
        rw [vl_snoc, ho, Int.pow_succ, ← hv, Int.add_assoc, alg_carry (s := (n : Int)) (by omega)]
      · have e : ((n / 1000000 : Nat) : Int) = (n : Int) / 1000000 := by omega
        simp only [go_sem, reduceCtorEq, ↓reduceIte, Nat.reduceEqDiff, Nat.reduceAdd, Nat.reduceSub, Nat.reduceMul, Nat.reduceLT, Nat.reduceLeDiff, Nat.reduceBEq, Nat.reduceBNe, Nat.reducePow, Nat.reduceDiv, Nat.reduceMod, Int.reduceAdd, Int.reduceSub, Int.reduceMul, Int.reduceLT, Int.reduceLE, Int.reduceEq, Int.reduceNe, Int.reduceNeg, Int.reduceToNat, Int.reducePow, Int.reduceDiv, Int.reduceMod, he, hh, e]
      · simp only [go_sem, reduceCtorEq, ↓reduceIte, Nat.reduceEqDiff, Nat.reduceAdd, Nat.reduceSub, Nat.reduceMul, Nat.reduceLT, Nat.reduceLeDiff, Nat.reduceBEq, Nat.reduceBNe, Nat.reducePow, Nat.reduceDiv, Nat.reduceMod, Int.reduceAdd, Int.reduceSub, Int.reduceMul, Int.reduceLT, Int.reduceLE, Int.reduceEq, Int.reduceNe, Int.reduceNeg, Int.reduceToNat, Int.reducePow, Int.reduceDiv, Int.reduceMod, he, hh]
    · obtain rfl : n = 0 := by omega
      unfold Hold at hv
      rw [Int.natCast_zero, Int.mul_zero, Int.add_zero] at hv
      simp (disch := omega) only [sd_t, dec_t, dec_f, i64_in, u32_in, u64_in, i64_quo, u32_quo, u64_quo, rem_in, Int.toNat_of_nonneg, go_sem, reduceCtorEq, ↓reduceIte, Nat.reduceEqDiff, Nat.reduceAdd, Nat.reduceSub, Nat.reduceMul, Nat.reduceLT, Nat.reduceLeDiff, Nat.reduceBEq, Nat.reduceBNe, Nat.reducePow, Nat.reduceDiv, Nat.reduceMod, Int.reduceAdd, Int.reduceSub, Int.reduceMul, Int.reduceLT, Int.reduceLE, Int.reduceEq, Int.reduceNe, Int.reduceNeg, Int.reduceToNat, Int.reducePow, Int.reduceDiv, Int.reduceMod, F_waypointref01_Of_b0, he, hh, ho, hlen', List.take_of_length_le, nums_snoc]
      refine hQ _ o hd (by omega) hv ?_ ?_ <;> simp only [go_sem, reduceCtorEq, ↓reduceIte, Nat.reduceEqDiff, Nat.reduceAdd, Nat.reduceSub, Nat.reduceMul, Nat.reduceLT, Nat.reduceLeDiff, Nat.reduceBEq, Nat.reduceBNe, Nat.reducePow, Nat.reduceDiv, Nat.reduceMod, Int.reduceAdd, Int.reduceSub, Int.reduceMul, Int.reduceLT, Int.reduceLE, Int.reduceEq, Int.reduceNe, Int.reduceNeg, Int.reduceToNat, Int.reducePow, Int.reduceDiv, Int.reduceMod, he, hh, ho]
theorem Of_fnR (hP : X.P = Tryd.prog) (n : Nat) (hn : n < 18446744073709551616) : Fn X 48 [.sc (.int .u64 n)] (i64s (dg 1000000 n)) := by
  have hl : (dg 1000000 n).length ≤ 4 := dg_length (by omega) (by omega)
  refine W_waypointref01_Of hP rfl ?_
  simp (disch := omega) only [sd_t, dec_t, dec_f, i64_in, u32_in, u64_in, i64_quo, u32_quo, u64_quo, rem_in, Int.toNat_of_nonneg, go_sem, reduceCtorEq, ↓reduceIte, Nat.reduceEqDiff, Nat.reduceAdd, Nat.reduceSub, Nat.reduceMul, Nat.reduceLT, Nat.reduceLeDiff, Nat.reduceBEq, Nat.reduceBNe, Nat.reducePow, Nat.reduceDiv, Nat.reduceMod, Int.reduceAdd, Int.reduceSub, Int.reduceMul, Int.reduceLT, Int.reduceLE, Int.reduceEq, Int.reduceNe, Int.reduceNeg, Int.reduceToNat, Int.reducePow, Int.reduceDiv, Int.reduceMod, F_waypointref01_Of]
  refine Of_l0R n ?_ n 0 [] _ hn rfl (Dig.nil _) (by omega) (by unfold Hold; simp [vl]) ?_ ?_
  · intro S o hd ho hv he hh
    simp only [En, Hp, and_true] at he hh
    simp (disch := omega) only [sd_t, dec_t, dec_f, i64_in, u32_in, u64_in, i64_quo, u32_quo, u64_quo, rem_in, Int.toNat_of_nonneg, go_sem, reduceCtorEq, ↓reduceIte, Nat.reduceEqDiff, Nat.reduceAdd, Nat.reduceSub, Nat.reduceMul, Nat.reduceLT, Nat.reduceLeDiff, Nat.reduceBEq, Nat.reduceBNe, Nat.reducePow, Nat.reduceDiv, Nat.reduceMod, Int.reduceAdd, Int.reduceSub, Int.reduceMul, Int.reduceLT, Int.reduceLE, Int.reduceEq, Int.reduceNe, Int.reduceNeg, Int.reduceToNat, Int.reducePow, Int.reduceDiv, Int.reduceMod, F_waypointref01_Of_k0, R_waypointref01_Of, he, hh]
    refine cp_of (without_nat hP (by omega) hd hv) (by (simp [List.take_of_length_le])) ?_
    simp (disch := omega) only [sd_t, dec_t, dec_f, i64_in, u32_in, u64_in, i64_quo, u32_quo, u64_quo, rem_in, Int.toNat_of_nonneg, go_sem, reduceCtorEq, ↓reduceIte, Nat.reduceEqDiff, Nat.reduceAdd, Nat.reduceSub, Nat.reduceMul, Nat.reduceLT, Nat.reduceLeDiff, Nat.reduceBEq, Nat.reduceBNe, Nat.reducePow, Nat.reduceDiv, Nat.reduceMod, Int.reduceAdd, Int.reduceSub, Int.reduceMul, Int.reduceLT, Int.reduceLE, Int.reduceEq, Int.reduceNe, Int.reduceNeg, Int.reduceToNat, Int.reducePow, Int.reduceDiv, Int.reduceMod, he, hh]
  · simp only [go_sem, reduceCtorEq, ↓reduceIte, Nat.reduceEqDiff, Nat.reduceAdd, Nat.reduceSub, Nat.reduceMul, Nat.reduceLT, Nat.reduceLeDiff, Nat.reduceBEq, Nat.reduceBNe, Nat.reducePow, Nat.reduceDiv, Nat.reduceMod, Int.reduceAdd, Int.reduceSub, Int.reduceMul, Int.reduceLT, Int.reduceLE, Int.reduceEq, Int.reduceNe, Int.reduceNeg, Int.reduceToNat, Int.reducePow, Int.reduceDiv, Int.reduceMod]
  · simp only [go_sem, reduceCtorEq, ↓reduceIte, Nat.reduceEqDiff, Nat.reduceAdd, Nat.reduceSub, Nat.reduceMul, Nat.reduceLT, Nat.reduceLeDiff, Nat.reduceBEq, Nat.reduceBNe, Nat.reducePow, Nat.reduceDiv, Nat.reduceMod, Int.reduceAdd, Int.reduceSub, Int.reduceMul, Int.reduceLT, Int.reduceLE, Int.reduceEq, Int.reduceNe, Int.reduceNeg, Int.reduceToNat, Int.reducePow, Int.reduceDiv, Int.reduceMod]
    rfl
theorem Add_l1R (r : List Int) (v0 : Int) (n : Nat) (hr : Dig 1000000 r) (hrn : r.length ≤ n) (hn : n ≤ 100000000000) {Q : Ex → St → Prop} (hQ : ∀ S o, Big o → o.length = n → vl 1000000 o = v0 + vl 1000000 r → En S [(5, .os 100 0 n)] → Hp S [(100, .p 3 1 (nums .i64 o))] → Q (.x 2) S) :
    ∀ (m i : Nat) (o : List Int) (S : St), m + i = r.length → o.length = n → (∀ p : Nat, 0 ≤ rd o (p : Int) ∧ rd o (p : Int) ≤ 2000000) → (∀ p : Nat, i ≤ p → rd o (p : Int) ≤ 1000000) → Hold (vl 1000000 o = v0 + vl 1000000 (r.take i)) →
    En S [(1, .v (i64s r)), (5, .os 100 0 n), (7, i64 i)] → Hp S [(100, .p 3 1 (nums .i64 o))] → wpC X F_waypointref01_Add_l1 Q S := by
  intro m
  induction m with
  | zero =>
    intro i o S hi ho hb _ hv he hh
    unfold Hold at hv
    rw [vl_take_all _ _ _ (by omega)] at hv
    have hB : Big o := fun x hx => by
      obtain ⟨p, hp, rfl⟩ := List.getElem_of_mem hx
      have := hb p
      rw [rd_nat _ _ hp] at this
      omega
    simp only [En, Hp, and_true] at he hh
    refine wpC_round rfl ?_
    simp (disch := omega) only [sd_t, dec_t, dec_f, i64_in, u32_in, u64_in, i64_quo, u32_quo, u64_quo, rem_in, Int.toNat_of_nonneg, go_sem, reduceCtorEq, ↓reduceIte, Nat.reduceEqDiff, Nat.reduceAdd, Nat.reduceSub, Nat.reduceMul, Nat.reduceLT, Nat.reduceLeDiff, Nat.reduceBEq, Nat.reduceBNe, Nat.reducePow, Nat.reduceDiv, Nat.reduceMod, Int.reduceAdd, Int.reduceSub, Int.reduceMul, Int.reduceLT, Int.reduceLE, Int.reduceEq, Int.reduceNe, Int.reduceNeg, Int.reduceToNat, Int.reducePow, Int.reduceDiv, Int.reduceMod, F_waypointref01_Add_b1, he, hh]
    refine hQ _ o hB ho hv ?_ ?_ <;> simp only [go_sem, reduceCtorEq, ↓reduceIte, Nat.reduceEqDiff, Nat.reduceAdd, Nat.reduceSub, Nat.reduceMul, Nat.reduceLT, Nat.reduceLeDiff, Nat.reduceBEq, Nat.reduceBNe, Nat.reducePow, Nat.reduceDiv, Nat.reduceMod, Int.reduceAdd, Int.reduceSub, Int.reduceMul, Int.reduceLT, Int.reduceLE, Int.reduceEq, Int.reduceNe, Int.reduceNeg, Int.reduceToNat, Int.reducePow, Int.reduceDiv, Int.reduceMod, he, hh, ho]
  | succ m ih =>
    intro i o S hi ho hb hb2 hv he hh
    have hx := hr.rd (by omega) i
    have hy := hb i
    have hz := hb2 i (Nat.le_refl _)
    simp only [En, Hp, and_true] at he hh
    refine wpC_round rfl ?_
    simp (disch := omega) only [sd_t, dec_t, dec_f, i64_in, u32_in, u64_in, i64_quo, u32_quo, u64_quo, rem_in, Int.toNat_of_nonneg, go_sem, reduceCtorEq, ↓reduceIte, Nat.reduceEqDiff, Nat.reduceAdd, Nat.reduceSub, Nat.reduceMul, Nat.reduceLT, Nat.reduceLeDiff, Nat.reduceBEq, Nat.reduceBNe, Nat.reducePow, Nat.reduceDiv, Nat.reduceMod, Int.reduceAdd, Int.reduceSub, Int.reduceMul, Int.reduceLT, Int.reduceLE, Int.reduceEq, Int.reduceNe, Int.reduceNeg, Int.reduceToNat, Int.reducePow, Int.reduceDiv, Int.reduceMod, F_waypointref01_Add_b1, he, hh, ho]
    refine ih (i + 1) (o.set i (rd o (i : Int) + rd r (i : Int))) _ (by omega) (by simpa using ho) (fun p => by
        by_cases hp : i = p
        · subst hp; rw [rd_set_eq _ _ _ (by omega)]; omega
        · rw [rd_set_ne _ _ _ _ hp]; exact hb p) (fun p hp => by rw [rd_set_ne _ _ _ _ (by omega)]; exact hb2 p (by omega)) ?_ ?_ ?_
    · unfold Hold at hv ⊢
      rw [vl_set _ _ _ _ (by omega), vl_take_succ, hv, asc, Int.add_assoc]
    · simp only [go_sem, reduceCtorEq, ↓reduceIte, Nat.reduceEqDiff, Nat.reduceAdd, Nat.reduceSub, Nat.reduceMul, Nat.reduceLT, Nat.reduceLeDiff, Nat.reduceBEq, Nat.reduceBNe, Nat.reducePow, Nat.reduceDiv, Nat.reduceMod, Int.reduceAdd, Int.reduceSub, Int.reduceMul, Int.reduceLT, Int.reduceLE, Int.reduceEq, Int.reduceNe, Int.reduceNeg, Int.reduceToNat, Int.reducePow, Int.reduceDiv, Int.reduceMod, he, hh]
    · simp only [go_sem, reduceCtorEq, ↓reduceIte, Nat.reduceEqDiff, Nat.reduceAdd, Nat.reduceSub, Nat.reduceMul, Nat.reduceLT, Nat.reduceLeDiff, Nat.reduceBEq, Nat.reduceBNe, Nat.reducePow, Nat.reduceDiv, Nat.reduceMod, Int.reduceAdd, Int.reduceSub, Int.reduceMul, Int.reduceLT, Int.reduceLE, Int.reduceEq, Int.reduceNe, Int.reduceNeg, Int.reduceToNat, Int.reducePow, Int.reduceDiv, Int.reduceMod, he, hh]
theorem Add_l0R (l r : List Int) (n : Nat) (hl : Dig 1000000 l) (hr : Dig 1000000 r) (hln : l.length ≤ n) (hn : n ≤ 100000000000) {Q : Ex → St → Prop} (hQ : ∀ S o, o.length = n → (∀ p : Nat, 0 ≤ rd o (p : Int) ∧ rd o (p : Int) ≤ 1000000) → vl 1000000 o = vl 1000000 l → En S [(1, .v (i64s r)), (5, .os 100 0 n)] → Hp S [(100, .p 3 1 (nums .i64 o))] → Q (.x 0) S) :
    ∀ (m i : Nat) (o : List Int) (S : St), m + i = l.length → o.length = n → (∀ p : Nat, 0 ≤ rd o (p : Int) ∧ rd o (p : Int) ≤ 1000000) → (∀ p : Nat, i ≤ p → rd o (p : Int) = 0) → Hold (vl 1000000 o = vl 1000000 (l.take i)) →
    En S [(0, .v (i64s l)), (1, .v (i64s r)), (5, .os 100 0 n), (6, i64 i)] → Hp S [(100, .p 3 1 (nums .i64 o))] → wpC X F_waypointref01_Add_l0 Q S := by
  intro m
  induction m with
  | zero =>
    intro i o S hi ho hb _ hv he hh
    unfold Hold at hv
    rw [vl_take_all _ _ _ (by omega)] at hv
    simp only [En, Hp, and_true] at he hh
    refine wpC_round rfl ?_
    simp (disch := omega) only [sd_t, dec_t, dec_f, i64_in, u32_in, u64_in, i64_quo, u32_quo, u64_quo, rem_in, Int.toNat_of_nonneg, go_sem, reduceCtorEq, ↓reduceIte, Nat.reduceEqDiff, Nat.reduceAdd, Nat.reduceSub, Nat.reduceMul, Nat.reduceLT, Nat.reduceLeDiff, Nat.reduceBEq, Nat.reduceBNe, Nat.reducePow, Nat.reduceDiv, Nat.reduceMod, Int.reduceAdd, Int.reduceSub, Int.reduceMul, Int.reduceLT, Int.reduceLE, Int.reduceEq, Int.reduceNe, Int.reduceNeg, Int.reduceToNat, Int.reducePow, Int.reduceDiv, Int.reduceMod, F_waypointref01_Add_b0, he, hh]
    refine hQ _ o ho hb hv ?_ ?_ <;> simp only [go_sem, reduceCtorEq, ↓reduceIte, Nat.reduceEqDiff, Nat.reduceAdd, Nat.reduceSub, Nat.reduceMul, Nat.reduceLT, Nat.reduceLeDiff, Nat.reduceBEq, Nat.reduceBNe, Nat.reducePow, Nat.reduceDiv, Nat.reduceMod, Int.reduceAdd, Int.reduceSub, Int.reduceMul, Int.reduceLT, Int.reduceLE, Int.reduceEq, Int.reduceNe, Int.reduceNeg, Int.reduceToNat, Int.reducePow, Int.reduceDiv, Int.reduceMod, he, hh, ho]
  | succ m ih =>
    intro i o S hi ho hb hb2 hv he hh
    have hx := hl.rd (by omega) i
    have hy := hb i
    have hz := hb2 i (Nat.le_refl _)
    simp only [En, Hp, and_true] at he hh
    refine wpC_round rfl ?_
    simp (disch := omega) only [sd_t, dec_t, dec_f, i64_in, u32_in, u64_in, i64_quo, u32_quo, u64_quo, rem_in, Int.toNat_of_nonneg, go_sem, reduceCtorEq, ↓reduceIte, Nat.reduceEqDiff, Nat.reduceAdd, Nat.reduceSub, Nat.reduceMul, Nat.reduceLT, Nat.reduceLeDiff, Nat.reduceBEq, Nat.reduceBNe, Nat.reducePow, Nat.reduceDiv, Nat.reduceMod, Int.reduceAdd, Int.reduceSub, Int.reduceMul, Int.reduceLT, Int.reduceLE, Int.reduceEq, Int.reduceNe, Int.reduceNeg, Int.reduceToNat, Int.reducePow, Int.reduceDiv, Int.reduceMod, F_waypointref01_Add_b0, he, hh, ho]
    refine ih (i + 1) (o.set i (rd o (i : Int) + rd l (i : Int))) _ (by omega) (by simpa using ho) (fun p => by
        by_cases hp : i = p
        · subst hp; rw [rd_set_eq _ _ _ (by omega)]; omega
        · rw [rd_set_ne _ _ _ _ hp]; exact hb p) (fun p hp => by rw [rd_set_ne _ _ _ _ (by omega)]; exact hb2 p (by omega)) ?_ ?_ ?_
    · unfold Hold at hv ⊢
      rw [vl_set _ _ _ _ (by omega), vl_take_succ, hv, hz, Int.zero_add, Int.sub_zero]
    · simp only [go_sem, reduceCtorEq, ↓reduceIte, Nat.reduceEqDiff, Nat.reduceAdd, Nat.reduceSub, Nat.reduceMul, Nat.reduceLT, Nat.reduceLeDiff, Nat.reduceBEq, Nat.reduceBNe, Nat.reducePow, Nat.reduceDiv, Nat.reduceMod, Int.reduceAdd, Int.reduceSub, Int.reduceMul, Int.reduceLT, Int.reduceLE, Int.reduceEq, Int.reduceNe, Int.reduceNeg, Int.reduceToNat, Int.reducePow, Int.reduceDiv, Int.reduceMod, he, hh]
    · simp only [go_sem, reduceCtorEq, ↓reduceIte, Nat.reduceEqDiff, Nat.reduceAdd, Nat.reduceSub, Nat.reduceMul, Nat.reduceLT, Nat.reduceLeDiff, Nat.reduceBEq, Nat.reduceBNe, Nat.reducePow, Nat.reduceDiv, Nat.reduceMod, Int.reduceAdd, Int.reduceSub, Int.reduceMul, Int.reduceLT, Int.reduceLE, Int.reduceEq, Int.reduceNe, Int.reduceNeg, Int.reduceToNat, Int.reducePow, Int.reduceDiv, Int.reduceMod, he, hh]
theorem Add_fnR (hP : X.P = Tryd.prog) (a b : Nat) (ha : (dg 1000000 a).length ≤ 100000000000) (hb : (dg 1000000 b).length ≤ 100000000000) : Fn X 46 [i64s (dg 1000000 a), i64s (dg 1000000 b)] (i64s (dg 1000000 (a + b))) := by
  obtain ⟨n, hn, h1, h2, h3⟩ : ∃ n : Nat, (if ((dg 1000000 a).length : Int) < (dg 1000000 b).length then ((dg 1000000 b).length : Int) else (dg 1000000 a).length) = (n : Int) ∧ (dg 1000000 a).length ≤ n ∧ (dg 1000000 b).length ≤ n ∧ n ≤ 100000000000 := by
    refine ⟨max (dg 1000000 a).length (dg 1000000 b).length, ?_, by omega, by omega, by omega⟩
    split <;> omega
  refine W_waypointref01_Add hP rfl ?_
  simp (disch := omega) only [sd_t, dec_t, dec_f, i64_in, u32_in, u64_in, i64_quo, u32_quo, u64_quo, rem_in, Int.toNat_of_nonneg, go_sem, reduceCtorEq, ↓reduceIte, Nat.reduceEqDiff, Nat.reduceAdd, Nat.reduceSub, Nat.reduceMul, Nat.reduceLT, Nat.reduceLeDiff, Nat.reduceBEq, Nat.reduceBNe, Nat.reducePow, Nat.reduceDiv, Nat.reduceMod, Int.reduceAdd, Int.reduceSub, Int.reduceMul, Int.reduceLT, Int.reduceLE, Int.reduceEq, Int.reduceNe, Int.reduceNeg, Int.reduceToNat, Int.reducePow, Int.reduceDiv, Int.reduceMod, F_waypointref01_Add, hn]
  refine Add_l0R (dg 1000000 a) (dg 1000000 b) n (dig6 a) (dig6 b) h1 h3 ?_ (dg 1000000 a).length 0 (List.replicate n 0) _ (by omega) (by simp) (fun p => by rw [rd_rep]; omega) (fun p _ => rd_rep _ _) (by unfold Hold; rw [vl_rep]; simp [vl]) ?_ ?_
  · intro S o ho hb hv he hh
    rw [vl6] at hv
    simp only [En, Hp, and_true] at he hh
    simp (disch := omega) only [sd_t, dec_t, dec_f, i64_in, u32_in, u64_in, i64_quo, u32_quo, u64_quo, rem_in, Int.toNat_of_nonneg, go_sem, reduceCtorEq, ↓reduceIte, Nat.reduceEqDiff, Nat.reduceAdd, Nat.reduceSub, Nat.reduceMul, Nat.reduceLT, Nat.reduceLeDiff, Nat.reduceBEq, Nat.reduceBNe, Nat.reducePow, Nat.reduceDiv, Nat.reduceMod, Int.reduceAdd, Int.reduceSub, Int.reduceMul, Int.reduceLT, Int.reduceLE, Int.reduceEq, Int.reduceNe, Int.reduceNeg, Int.reduceToNat, Int.reducePow, Int.reduceDiv, Int.reduceMod, F_waypointref01_Add_k1, he, hh]
    refine Add_l1R (dg 1000000 b) a n (dig6 b) h2 h3 ?_ (dg 1000000 b).length 0 o _ (by omega) ho (fun p => ⟨(hb p).1, by have := (hb p).2; omega⟩) (fun p _ => (hb p).2) (by unfold Hold; rw [hv]; simp [vl]) ?_ ?_
    · intro S o hB ho hv he hh
      simp only [En, Hp, and_true] at he hh
      rw [vl6] at hv
      simp (disch := omega) only [sd_t, dec_t, dec_f, i64_in, u32_in, u64_in, i64_quo, u32_quo, u64_quo, rem_in, Int.toNat_of_nonneg, go_sem, reduceCtorEq, ↓reduceIte, Nat.reduceEqDiff, Nat.reduceAdd, Nat.reduceSub, Nat.reduceMul, Nat.reduceLT, Nat.reduceLeDiff, Nat.reduceBEq, Nat.reduceBNe, Nat.reducePow, Nat.reduceDiv, Nat.reduceMod, Int.reduceAdd, Int.reduceSub, Int.reduceMul, Int.reduceLT, Int.reduceLE, Int.reduceEq, Int.reduceNe, Int.reduceNeg, Int.reduceToNat, Int.reducePow, Int.reduceDiv, Int.reduceMod, F_waypointref01_Add_k0, R_waypointref01_Add, he, hh]
      refine cp_of (carried_fn hP hB (by omega) (n := a + b) (by omega)) (by (simp [List.take_of_length_le, ho])) ?_
      simp (disch := omega) only [sd_t, dec_t, dec_f, i64_in, u32_in, u64_in, i64_quo, u32_quo, u64_quo, rem_in, Int.toNat_of_nonneg, go_sem, reduceCtorEq, ↓reduceIte, Nat.reduceEqDiff, Nat.reduceAdd, Nat.reduceSub, Nat.reduceMul, Nat.reduceLT, Nat.reduceLeDiff, Nat.reduceBEq, Nat.reduceBNe, Nat.reducePow, Nat.reduceDiv, Nat.reduceMod, Int.reduceAdd, Int.reduceSub, Int.reduceMul, Int.reduceLT, Int.reduceLE, Int.reduceEq, Int.reduceNe, Int.reduceNeg, Int.reduceToNat, Int.reducePow, Int.reduceDiv, Int.reduceMod, he, hh]
    · simp only [go_sem, reduceCtorEq, ↓reduceIte, Nat.reduceEqDiff, Nat.reduceAdd, Nat.reduceSub, Nat.reduceMul, Nat.reduceLT, Nat.reduceLeDiff, Nat.reduceBEq, Nat.reduceBNe, Nat.reducePow, Nat.reduceDiv, Nat.reduceMod, Int.reduceAdd, Int.reduceSub, Int.reduceMul, Int.reduceLT, Int.reduceLE, Int.reduceEq, Int.reduceNe, Int.reduceNeg, Int.reduceToNat, Int.reducePow, Int.reduceDiv, Int.reduceMod, he, hh]
    · simp only [go_sem, reduceCtorEq, ↓reduceIte, Nat.reduceEqDiff, Nat.reduceAdd, Nat.reduceSub, Nat.reduceMul, Nat.reduceLT, Nat.reduceLeDiff, Nat.reduceBEq, Nat.reduceBNe, Nat.reducePow, Nat.reduceDiv, Nat.reduceMod, Int.reduceAdd, Int.reduceSub, Int.reduceMul, Int.reduceLT, Int.reduceLE, Int.reduceEq, Int.reduceNe, Int.reduceNeg, Int.reduceToNat, Int.reducePow, Int.reduceDiv, Int.reduceMod, he, hh]
  · simp only [go_sem, reduceCtorEq, ↓reduceIte, Nat.reduceEqDiff, Nat.reduceAdd, Nat.reduceSub, Nat.reduceMul, Nat.reduceLT, Nat.reduceLeDiff, Nat.reduceBEq, Nat.reduceBNe, Nat.reducePow, Nat.reduceDiv, Nat.reduceMod, Int.reduceAdd, Int.reduceSub, Int.reduceMul, Int.reduceLT, Int.reduceLE, Int.reduceEq, Int.reduceNe, Int.reduceNeg, Int.reduceToNat, Int.reducePow, Int.reduceDiv, Int.reduceMod]
  · simp only [go_sem, reduceCtorEq, ↓reduceIte, Nat.reduceEqDiff, Nat.reduceAdd, Nat.reduceSub, Nat.reduceMul, Nat.reduceLT, Nat.reduceLeDiff, Nat.reduceBEq, Nat.reduceBNe, Nat.reducePow, Nat.reduceDiv, Nat.reduceMod, Int.reduceAdd, Int.reduceSub, Int.reduceMul, Int.reduceLT, Int.reduceLE, Int.reduceEq, Int.reduceNe, Int.reduceNeg, Int.reduceToNat, Int.reducePow, Int.reduceDiv, Int.reduceMod]
theorem Make_l0 (hP : X.P = Tryd.prog) (l : List Int) (hl : Dig 4294967296 l) (hn : l.length ≤ 1000000) {Q : Ex → St → Prop} (hQ : ∀ S, En S [(3, .v (i64s (dg 1000000 (num l))))] → S.heap 100 = none → Q (.x 0) S) : ∀ (m i a : Nat) (S : St), m + i = l.length → (a : Int) = vl 4294967296 (l.drop m) → Hold (a < 1000000 ^ (2 * i)) →
    En S [(0, .v (u32s l)), (3, .v (i64s (dg 1000000 a))), (4, i64 i)] → wpC X F_waypointref01_Make_l0 Q S := by
  intro m
  induction m with
  | zero =>
    intro i a S hi ha _ he
    rw [List.drop_zero] at ha
    have e : num l = a := by unfold num; omega
    rw [e] at hQ
    simp only [En, Hp, and_true] at he
    refine wpC_round rfl ?_
    simp (disch := omega) only [sd_t, dec_t, dec_f, i64_in, u32_in, u64_in, i64_quo, u32_quo, u64_quo, rem_in, Int.toNat_of_nonneg, go_sem, reduceCtorEq, ↓reduceIte, Nat.reduceEqDiff, Nat.reduceAdd, Nat.reduceSub, Nat.reduceMul, Nat.reduceLT, Nat.reduceLeDiff, Nat.reduceBEq, Nat.reduceBNe, Nat.reducePow, Nat.reduceDiv, Nat.reduceMod, Int.reduceAdd, Int.reduceSub, Int.reduceMul, Int.reduceLT, Int.reduceLE, Int.reduceEq, Int.reduceNe, Int.reduceNeg, Int.reduceToNat, Int.reducePow, Int.reduceDiv, Int.reduceMod, F_waypointref01_Make_b0, he]
    refine hQ _ ?_ ?_ <;> simp only [go_sem, reduceCtorEq, ↓reduceIte, Nat.reduceEqDiff, Nat.reduceAdd, Nat.reduceSub, Nat.reduceMul, Nat.reduceLT, Nat.reduceLeDiff, Nat.reduceBEq, Nat.reduceBNe, Nat.reducePow, Nat.reduceDiv, Nat.reduceMod, Int.reduceAdd, Int.reduceSub, Int.reduceMul, Int.reduceLT, Int.reduceLE, Int.reduceEq, Int.reduceNe, Int.reduceNeg, Int.reduceToNat, Int.reducePow, Int.reduceDiv, Int.reduceMod, he]
  | succ m ih =>
    intro i a S hi ha hb he
    have hx := hl.rd (by omega) m
    obtain ⟨x, hxx⟩ : ∃ x : Nat, rd l (m : Int) = (x : Int) := ⟨(rd l (m : Int)).toNat, by omega⟩
    have hal : (dg 1000000 a).length ≤ 2 * i := dg_length (by omega) hb
    have ha2 : a * 4294967296 + x < 1000000 ^ (2 * (i + 1)) := by
      unfold Hold at hb
      rw [show 2 * (i + 1) = 2 * i + 1 + 1 from by omega, Nat.pow_succ, Nat.pow_succ]
      generalize 1000000 ^ (2 * i) = P at hb ⊢
      omega
    have hml : (dg 1000000 (a * 4294967296)).length ≤ 2 * (i + 1) := dg_length (by omega) (Nat.lt_of_le_of_lt (Nat.le_add_right _ _) ha2)
    have hxl : (dg 1000000 x).length ≤ 2 := dg_length (by omega) (by omega)
    have hm : (l.length : Int) - 1 - i = (m : Int) := by omega
    simp only [En, Hp, and_true] at he
    refine wpC_round rfl ?_
    simp (disch := omega) only [sd_t, dec_t, dec_f, i64_in, u32_in, u64_in, i64_quo, u32_quo, u64_quo, rem_in, Int.toNat_of_nonneg, go_sem, reduceCtorEq, ↓reduceIte, Nat.reduceEqDiff, Nat.reduceAdd, Nat.reduceSub, Nat.reduceMul, Nat.reduceLT, Nat.reduceLeDiff, Nat.reduceBEq, Nat.reduceBNe, Nat.reducePow, Nat.reduceDiv, Nat.reduceMod, Int.reduceAdd, Int.reduceSub, Int.reduceMul, Int.reduceLT, Int.reduceLE, Int.reduceEq, Int.reduceNe, Int.reduceNeg, Int.reduceToNat, Int.reducePow, Int.reduceDiv, Int.reduceMod, F_waypointref01_Make_b0, he]
    refine cp_of (times_fn hP a 4294967296 (by omega) (by omega)) rfl ?_
    simp (disch := omega) only [sd_t, dec_t, dec_f, i64_in, u32_in, u64_in, i64_quo, u32_quo, u64_quo, rem_in, Int.toNat_of_nonneg, go_sem, reduceCtorEq, ↓reduceIte, Nat.reduceEqDiff, Nat.reduceAdd, Nat.reduceSub, Nat.reduceMul, Nat.reduceLT, Nat.reduceLeDiff, Nat.reduceBEq, Nat.reduceBNe, Nat.reducePow, Nat.reduceDiv, Nat.reduceMod, Int.reduceAdd, Int.reduceSub, Int.reduceMul, Int.reduceLT, Int.reduceLE, Int.reduceEq, Int.reduceNe, Int.reduceNeg, Int.reduceToNat, Int.reducePow, Int.reduceDiv, Int.reduceMod, he, hm, hxx]
    refine cp_of (Of_fnR hP x (by omega)) rfl ?_
    simp (disch := omega) only [sd_t, dec_t, dec_f, i64_in, u32_in, u64_in, i64_quo, u32_quo, u64_quo, rem_in, Int.toNat_of_nonneg, go_sem, reduceCtorEq, ↓reduceIte, Nat.reduceEqDiff, Nat.reduceAdd, Nat.reduceSub, Nat.reduceMul, Nat.reduceLT, Nat.reduceLeDiff, Nat.reduceBEq, Nat.reduceBNe, Nat.reducePow, Nat.reduceDiv, Nat.reduceMod, Int.reduceAdd, Int.reduceSub, Int.reduceMul, Int.reduceLT, Int.reduceLE, Int.reduceEq, Int.reduceNe, Int.reduceNeg, Int.reduceToNat, Int.reducePow, Int.reduceDiv, Int.reduceMod, he]
    refine cp_of (Add_fnR hP _ _ (by omega) (by omega)) rfl ?_
    simp (disch := omega) only [sd_t, dec_t, dec_f, i64_in, u32_in, u64_in, i64_quo, u32_quo, u64_quo, rem_in, Int.toNat_of_nonneg, go_sem, reduceCtorEq, ↓reduceIte, Nat.reduceEqDiff, Nat.reduceAdd, Nat.reduceSub, Nat.reduceMul, Nat.reduceLT, Nat.reduceLeDiff, Nat.reduceBEq, Nat.reduceBNe, Nat.reducePow, Nat.reduceDiv, Nat.reduceMod, Int.reduceAdd, Int.reduceSub, Int.reduceMul, Int.reduceLT, Int.reduceLE, Int.reduceEq, Int.reduceNe, Int.reduceNeg, Int.reduceToNat, Int.reducePow, Int.reduceDiv, Int.reduceMod, he]
    refine ih (i + 1) (a * 4294967296 + x) _ (by omega) ?_ ha2 ?_
    · rw [vl_drop _ _ _ (by omega), ← ha, ← rd_nat l m (by omega), hxx]; omega
    · simp only [go_sem, reduceCtorEq, ↓reduceIte, Nat.reduceEqDiff, Nat.reduceAdd, Nat.reduceSub, Nat.reduceMul, Nat.reduceLT, Nat.reduceLeDiff, Nat.reduceBEq, Nat.reduceBNe, Nat.reducePow, Nat.reduceDiv, Nat.reduceMod, Int.reduceAdd, Int.reduceSub, Int.reduceMul, Int.reduceLT, Int.reduceLE, Int.reduceEq, Int.reduceNe, Int.reduceNeg, Int.reduceToNat, Int.reducePow, Int.reduceDiv, Int.reduceMod, he]
theorem Make_fnR (hP : X.P = Tryd.prog) (l : List Int) (hl : Dig 4294967296 l) (hn : l.length ≤ 1000000) : Fn X 26 [u32s l] (i64s (dg 1000000 (num l))) := by
  refine W_waypointref01_Make hP rfl ?_
  simp (disch := omega) only [sd_t, dec_t, dec_f, i64_in, u32_in, u64_in, i64_quo, u32_quo, u64_quo, rem_in, Int.toNat_of_nonneg, go_sem, reduceCtorEq, ↓reduceIte, Nat.reduceEqDiff, Nat.reduceAdd, Nat.reduceSub, Nat.reduceMul, Nat.reduceLT, Nat.reduceLeDiff, Nat.reduceBEq, Nat.reduceBNe, Nat.reducePow, Nat.reduceDiv, Nat.reduceMod, Int.reduceAdd, Int.reduceSub, Int.reduceMul, Int.reduceLT, Int.reduceLE, Int.reduceEq, Int.reduceNe, Int.reduceNeg, Int.reduceToNat, Int.reducePow, Int.reduceDiv, Int.reduceMod, F_waypointref01_Make]
  refine Make_l0 hP l hl hn ?_ l.length 0 0 _ (by omega) (by rw [List.drop_length]; rfl) (by unfold Hold; simp) ?_
  · intro S he hh
    simp only [En, and_true] at he
    simp (disch := omega) only [sd_t, dec_t, dec_f, i64_in, u32_in, u64_in, i64_quo, u32_quo, u64_quo, rem_in, Int.toNat_of_nonneg, go_sem, reduceCtorEq, ↓reduceIte, Nat.reduceEqDiff, Nat.reduceAdd, Nat.reduceSub, Nat.reduceMul, Nat.reduceLT, Nat.reduceLeDiff, Nat.reduceBEq, Nat.reduceBNe, Nat.reducePow, Nat.reduceDiv, Nat.reduceMod, Int.reduceAdd, Int.reduceSub, Int.reduceMul, Int.reduceLT, Int.reduceLE, Int.reduceEq, Int.reduceNe, Int.reduceNeg, Int.reduceToNat, Int.reducePow, Int.reduceDiv, Int.reduceMod, F_waypointref01_Make_k0, R_waypointref01_Make, he, hh]
  · simp only [go_sem, reduceCtorEq, ↓reduceIte, Nat.reduceEqDiff, Nat.reduceAdd, Nat.reduceSub, Nat.reduceMul, Nat.reduceLT, Nat.reduceLeDiff, Nat.reduceBEq, Nat.reduceBNe, Nat.reducePow, Nat.reduceDiv, Nat.reduceMod, Int.reduceAdd, Int.reduceSub, Int.reduceMul, Int.reduceLT, Int.reduceLE, Int.reduceEq, Int.reduceNe, Int.reduceNeg, Int.reduceToNat, Int.reducePow, Int.reduceDiv, Int.reduceMod, dg_zero]
    rfl
end Go.Proofs.YtmjkhbjfacfmcaaDoor.VX
end
section
namespace Go.Proofs.YtmjkhbjfacfmcaaDoor.VX
open Go Go.RowKit Go.Proofs.YtmjkhbjfacfmcaaDoor.NM Go.Proofs.YtmjkhbjfacfmcaaDoor.NT Go.Proofs.YtmjkhbjfacfmcaaDoor.RV IntWalk
set_option linter.unusedVariables false
set_option linter.unusedSimpArgs false
variable {X : Ctx}
abbrev strE (s : List UInt8) : E := .v (.sc (.string ⟨s.toArray⟩))
theorem chr_of (g : Nat) : strOf [(48 + (g : Int) % 10) % 256] = [UInt8.ofNat (48 + g % 10)] := by
  have e : (48 + (g : Int) % 10) % 256 = ((48 + g % 10 : Nat) : Int) := by omega
  rw [e]; unfold strOf; rw [List.map_cons, List.map_nil, Int.toNat_natCast]
theorem byte_chr (x : Int) : byteOk [x % 256] = True := eq_true fun n hn => by rw [List.mem_singleton.1 hn]; omega
theorem Text_l0R (L : List Int) (i : Nat) (hi : i + 1 < L.length) (hL : L.length ≤ 100000000000) (T : List UInt8) {Q : Ex → St → Prop} (hQ : ∀ S, En S [(0, .v (i64s L)), (3, strE T), (4, i64 i)] → Q (.x 2) S) :
    ∀ (r g k : Nat) (s : List UInt8) (S : St), r + k = 6 → g < 1000000 → s.length ≤ 1000000000000 + k → padr r g ++ s = T →
    En S [(0, .v (i64s L)), (3, strE s), (4, i64 i), (5, i64 g), (6, i64 k)] → wpC X F_waypointref01_Text_l0 Q S := by
  intro r
  induction r with
  | zero =>
    intro g k s S hk hg hs hT he
    obtain rfl : k = 6 := by omega
    rw [padr, List.nil_append] at hT
    subst hT
    simp only [En, and_true] at he
    refine wpC_round rfl ?_
    simp (disch := omega) only [sd_t, dec_t, dec_f, i64_in, u32_in, u64_in, i64_quo, u32_quo, u64_quo, rem_in, Int.toNat_of_nonneg, go_sem, reduceCtorEq, ↓reduceIte, Nat.reduceEqDiff, Nat.reduceAdd, Nat.reduceSub, Nat.reduceMul, Nat.reduceLT, Nat.reduceLeDiff, Nat.reduceBEq, Nat.reduceBNe, Nat.reducePow, Nat.reduceDiv, Nat.reduceMod, Int.reduceAdd, Int.reduceSub, Int.reduceMul, Int.reduceLT, Int.reduceLE, Int.reduceEq, Int.reduceNe, Int.reduceNeg, Int.reduceToNat, Int.reducePow, Int.reduceDiv, Int.reduceMod, F_waypointref01_Text_b0, he]
    refine hQ _ ?_
    simp only [go_sem, reduceCtorEq, ↓reduceIte, Nat.reduceEqDiff, Nat.reduceAdd, Nat.reduceSub, Nat.reduceMul, Nat.reduceLT, Nat.reduceLeDiff, Nat.reduceBEq, Nat.reduceBNe, Nat.reducePow, Nat.reduceDiv, Nat.reduceMod, Int.reduceAdd, Int.reduceSub, Int.reduceMul, Int.reduceLT, Int.reduceLE, Int.reduceEq, Int.reduceNe, Int.reduceNeg, Int.reduceToNat, Int.reducePow, Int.reduceDiv, Int.reduceMod, he]
  | succ r ih =>
    intro g k s S hk hg hs hT he
    rw [padr, List.append_assoc] at hT
    simp only [En, and_true] at he
    have e1 : ((g / 10 : Nat) : Int) = (g : Int) / 10 := by omega
    refine wpC_round rfl ?_
    simp (disch := omega) only [sd_t, dec_t, dec_f, i64_in, u32_in, u64_in, i64_quo, u32_quo, u64_quo, rem_in, Int.toNat_of_nonneg, go_sem, reduceCtorEq, ↓reduceIte, Nat.reduceEqDiff, Nat.reduceAdd, Nat.reduceSub, Nat.reduceMul, Nat.reduceLT, Nat.reduceLeDiff, Nat.reduceBEq, Nat.reduceBNe, Nat.reducePow, Nat.reduceDiv, Nat.reduceMod, Int.reduceAdd, Int.reduceSub, Int.reduceMul, Int.reduceLT, Int.reduceLE, Int.reduceEq, Int.reduceNe, Int.reduceNeg, Int.reduceToNat, Int.reducePow, Int.reduceDiv, Int.reduceMod, F_waypointref01_Text_b0, he, IntKind.wrap_u8, nums_one, chr_of, byte_chr, List.length_cons, List.length_nil]
    refine ih (g / 10) (k + 1) ([UInt8.ofNat (48 + g % 10)] ++ s) _ (by omega) (by omega) (by simp; omega) hT ?_
    simp only [go_sem, reduceCtorEq, ↓reduceIte, Nat.reduceEqDiff, Nat.reduceAdd, Nat.reduceSub, Nat.reduceMul, Nat.reduceLT, Nat.reduceLeDiff, Nat.reduceBEq, Nat.reduceBNe, Nat.reducePow, Nat.reduceDiv, Nat.reduceMod, Int.reduceAdd, Int.reduceSub, Int.reduceMul, Int.reduceLT, Int.reduceLE, Int.reduceEq, Int.reduceNe, Int.reduceNeg, Int.reduceToNat, Int.reducePow, Int.reduceDiv, Int.reduceMod, he, e1]
theorem Text_l0Rlast (L : List Int) (i : Nat) (hi : i + 1 = L.length) (hL : L.length ≤ 100000000000) (T : List UInt8) {Q : Ex → St → Prop} (hQ : ∀ S, En S [(0, .v (i64s L)), (3, strE T), (4, i64 i)] → Q (.x 2) S) :
    ∀ (r g k : Nat) (s : List UInt8) (S : St), r + k = 6 → g < 10 ^ r → s.length ≤ 1000000000000 + k → dec g ++ s = T →
    En S [(0, .v (i64s L)), (3, strE s), (4, i64 i), (5, i64 g), (6, i64 k)] → wpC X F_waypointref01_Text_l0 Q S := by
  intro r
  induction r with
  | zero =>
    intro g k s S hk hg hs hT he
    obtain rfl : k = 6 := by omega
    obtain rfl : g = 0 := by simpa using hg
    rw [dec_zero, List.nil_append] at hT
    subst hT
    simp only [En, and_true] at he
    refine wpC_round rfl ?_
    simp (disch := omega) only [sd_t, dec_t, dec_f, i64_in, u32_in, u64_in, i64_quo, u32_quo, u64_quo, rem_in, Int.toNat_of_nonneg, go_sem, reduceCtorEq, ↓reduceIte, Nat.reduceEqDiff, Nat.reduceAdd, Nat.reduceSub, Nat.reduceMul, Nat.reduceLT, Nat.reduceLeDiff, Nat.reduceBEq, Nat.reduceBNe, Nat.reducePow, Nat.reduceDiv, Nat.reduceMod, Int.reduceAdd, Int.reduceSub, Int.reduceMul, Int.reduceLT, Int.reduceLE, Int.reduceEq, Int.reduceNe, Int.reduceNeg, Int.reduceToNat, Int.reducePow, Int.reduceDiv, Int.reduceMod, F_waypointref01_Text_b0, he]
    refine hQ _ ?_
    simp only [go_sem, reduceCtorEq, ↓reduceIte, Nat.reduceEqDiff, Nat.reduceAdd, Nat.reduceSub, Nat.reduceMul, Nat.reduceLT, Nat.reduceLeDiff, Nat.reduceBEq, Nat.reduceBNe, Nat.reducePow, Nat.reduceDiv, Nat.reduceMod, Int.reduceAdd, Int.reduceSub, Int.reduceMul, Int.reduceLT, Int.reduceLE, Int.reduceEq, Int.reduceNe, Int.reduceNeg, Int.reduceToNat, Int.reducePow, Int.reduceDiv, Int.reduceMod, he]
  | succ r ih =>
    intro g k s S hk hg hs hT he
    have hg6 : g < 1000000 := Nat.lt_of_lt_of_le hg (Nat.pow_le_pow_right (n := 10) (j := 6) (by omega) (by omega))
    simp only [En, and_true] at he
    refine wpC_round rfl ?_
    rcases Nat.eq_zero_or_pos g with h0 | h0
    · subst h0
      rw [dec_zero, List.nil_append] at hT
      subst hT
      simp (disch := omega) only [sd_t, dec_t, dec_f, i64_in, u32_in, u64_in, i64_quo, u32_quo, u64_quo, rem_in, Int.toNat_of_nonneg, go_sem, reduceCtorEq, ↓reduceIte, Nat.reduceEqDiff, Nat.reduceAdd, Nat.reduceSub, Nat.reduceMul, Nat.reduceLT, Nat.reduceLeDiff, Nat.reduceBEq, Nat.reduceBNe, Nat.reducePow, Nat.reduceDiv, Nat.reduceMod, Int.reduceAdd, Int.reduceSub, Int.reduceMul, Int.reduceLT, Int.reduceLE, Int.reduceEq, Int.reduceNe, Int.reduceNeg, Int.reduceToNat, Int.reducePow, Int.reduceDiv, Int.reduceMod, F_waypointref01_Text_b0, he]
      refine hQ _ ?_
      simp only [go_sem, reduceCtorEq, ↓reduceIte, Nat.reduceEqDiff, Nat.reduceAdd, Nat.reduceSub, Nat.reduceMul, Nat.reduceLT, Nat.reduceLeDiff, Nat.reduceBEq, Nat.reduceBNe, Nat.reducePow, Nat.reduceDiv, Nat.reduceMod, Int.reduceAdd, Int.reduceSub, Int.reduceMul, Int.reduceLT, Int.reduceLE, Int.reduceEq, Int.reduceNe, Int.reduceNeg, Int.reduceToNat, Int.reducePow, Int.reduceDiv, Int.reduceMod, he]
    · rw [dec_step g h0, List.append_assoc] at hT
      have e1 : ((g / 10 : Nat) : Int) = (g : Int) / 10 := by omega
      simp (disch := omega) only [sd_t, dec_t, dec_f, i64_in, u32_in, u64_in, i64_quo, u32_quo, u64_quo, rem_in, Int.toNat_of_nonneg, go_sem, reduceCtorEq, ↓reduceIte, Nat.reduceEqDiff, Nat.reduceAdd, Nat.reduceSub, Nat.reduceMul, Nat.reduceLT, Nat.reduceLeDiff, Nat.reduceBEq, Nat.reduceBNe, Nat.reducePow, Nat.reduceDiv, Nat.reduceMod, Int.reduceAdd, Int.reduceSub, Int.reduceMul, Int.reduceLT, Int.reduceLE, Int.reduceEq, Int.reduceNe, Int.reduceNeg, Int.reduceToNat, Int.reducePow, Int.reduceDiv, Int.reduceMod, F_waypointref01_Text_b0, he, IntKind.wrap_u8, nums_one, chr_of, byte_chr, List.length_cons, List.length_nil]
      refine ih (g / 10) (k + 1) ([UInt8.ofNat (48 + g % 10)] ++ s) _ (by omega) (by rw [Nat.pow_succ] at hg; omega) (by simp; omega) hT ?_
      simp only [go_sem, reduceCtorEq, ↓reduceIte, Nat.reduceEqDiff, Nat.reduceAdd, Nat.reduceSub, Nat.reduceMul, Nat.reduceLT, Nat.reduceLeDiff, Nat.reduceBEq, Nat.reduceBNe, Nat.reducePow, Nat.reduceDiv, Nat.reduceMod, Int.reduceAdd, Int.reduceSub, Int.reduceMul, Int.reduceLT, Int.reduceLE, Int.reduceEq, Int.reduceNe, Int.reduceNeg, Int.reduceToNat, Int.reducePow, Int.reduceDiv, Int.reduceMod, he, e1]
theorem Text_l1R (L : List Int) (hL : L.length ≤ 100000000000) (T : List UInt8) {Q : Ex → St → Prop} (hQ : ∀ S, En S [(3, strE T)] → Q (.x 0) S) : ∀ (m i : Nat) (s : List UInt8) (S : St), 0 < m → i < L.length → L.drop i = dg 1000000 m → s.length ≤ 6 * i → dec m ++ s = T →
    En S [(0, .v (i64s L)), (3, strE s), (4, i64 i)] → wpC X F_waypointref01_Text_l1 Q S := by
  intro m
  induction m using Nat.strongRecOn with
  | _ m ih =>
    intro i s S hm hi hd hs hT he
    rw [List.drop_eq_getElem_cons hi, dg_pos (by omega) hm] at hd
    injection hd with hd1 hd2
    rw [← rd_nat L i hi] at hd1
    have hlen : (L.drop (i + 1)).length = (dg 1000000 (m / 1000000)).length := by rw [hd2]
    rw [List.length_drop] at hlen
    simp only [En, and_true] at he
    refine wpC_round rfl ?_
    simp (disch := omega) only [sd_t, dec_t, dec_f, i64_in, u32_in, u64_in, i64_quo, u32_quo, u64_quo, rem_in, Int.toNat_of_nonneg, go_sem, reduceCtorEq, ↓reduceIte, Nat.reduceEqDiff, Nat.reduceAdd, Nat.reduceSub, Nat.reduceMul, Nat.reduceLT, Nat.reduceLeDiff, Nat.reduceBEq, Nat.reduceBNe, Nat.reducePow, Nat.reduceDiv, Nat.reduceMod, Int.reduceAdd, Int.reduceSub, Int.reduceMul, Int.reduceLT, Int.reduceLE, Int.reduceEq, Int.reduceNe, Int.reduceNeg, Int.reduceToNat, Int.reducePow, Int.reduceDiv, Int.reduceMod, F_waypointref01_Text_b1, he, hd1]
    rcases Nat.eq_zero_or_pos (m / 1000000) with h0 | h0
    · have hmm : m % 1000000 = m := by omega
      rw [h0, dg_zero, List.length_nil] at hlen
      refine Text_l0Rlast L i (by omega) hL T ?_ 6 m 0 s _ (by omega) (by omega) (by omega) hT ?_
      · intro S he
        simp only [En, and_true] at he
        simp (disch := omega) only [sd_t, dec_t, dec_f, i64_in, u32_in, u64_in, i64_quo, u32_quo, u64_quo, rem_in, Int.toNat_of_nonneg, go_sem, reduceCtorEq, ↓reduceIte, Nat.reduceEqDiff, Nat.reduceAdd, Nat.reduceSub, Nat.reduceMul, Nat.reduceLT, Nat.reduceLeDiff, Nat.reduceBEq, Nat.reduceBNe, Nat.reducePow, Nat.reduceDiv, Nat.reduceMod, Int.reduceAdd, Int.reduceSub, Int.reduceMul, Int.reduceLT, Int.reduceLE, Int.reduceEq, Int.reduceNe, Int.reduceNeg, Int.reduceToNat, Int.reducePow, Int.reduceDiv, Int.reduceMod, F_waypointref01_Text_k0, he]
        refine wpC_round rfl ?_
        simp (disch := omega) only [sd_t, dec_t, dec_f, i64_in, u32_in, u64_in, i64_quo, u32_quo, u64_quo, rem_in, Int.toNat_of_nonneg, go_sem, reduceCtorEq, ↓reduceIte, Nat.reduceEqDiff, Nat.reduceAdd, Nat.reduceSub, Nat.reduceMul, Nat.reduceLT, Nat.reduceLeDiff, Nat.reduceBEq, Nat.reduceBNe, Nat.reducePow, Nat.reduceDiv, Nat.reduceMod, Int.reduceAdd, Int.reduceSub, Int.reduceMul, Int.reduceLT, Int.reduceLE, Int.reduceEq, Int.reduceNe, Int.reduceNeg, Int.reduceToNat, Int.reducePow, Int.reduceDiv, Int.reduceMod, F_waypointref01_Text_b1, he]
        refine hQ _ ?_
        simp only [go_sem, reduceCtorEq, ↓reduceIte, Nat.reduceEqDiff, Nat.reduceAdd, Nat.reduceSub, Nat.reduceMul, Nat.reduceLT, Nat.reduceLeDiff, Nat.reduceBEq, Nat.reduceBNe, Nat.reducePow, Nat.reduceDiv, Nat.reduceMod, Int.reduceAdd, Int.reduceSub, Int.reduceMul, Int.reduceLT, Int.reduceLE, Int.reduceEq, Int.reduceNe, Int.reduceNeg, Int.reduceToNat, Int.reducePow, Int.reduceDiv, Int.reduceMod, he]
      · simp only [go_sem, reduceCtorEq, ↓reduceIte, Nat.reduceEqDiff, Nat.reduceAdd, Nat.reduceSub, Nat.reduceMul, Nat.reduceLT, Nat.reduceLeDiff, Nat.reduceBEq, Nat.reduceBNe, Nat.reducePow, Nat.reduceDiv, Nat.reduceMod, Int.reduceAdd, Int.reduceSub, Int.reduceMul, Int.reduceLT, Int.reduceLE, Int.reduceEq, Int.reduceNe, Int.reduceNeg, Int.reduceToNat, Int.reducePow, Int.reduceDiv, Int.reduceMod, he, hmm]
    · have hne : 0 < (dg 1000000 (m / 1000000)).length := by rw [dg_pos (by omega) h0]; simp
      have hmod : m % 1000000 < 10 ^ 6 := Nat.mod_lt _ (by omega)
      have hpl : (padr 6 (m % 1000000)).length ≤ 6 := by
        rw [padr_eq 6 _ hmod, List.length_append, List.length_replicate]
        have := dec_le hmod
        omega
      have hsplit : dec m = dec (m / 1000000) ++ padr 6 (m % 1000000) := by
        have e : m = m % 1000000 + 10 ^ 6 * (m / 1000000) := (Nat.mod_add_div m 1000000).symm
        have h2 := dec_split h0 hmod
        rw [← e] at h2
        rw [h2, padr_eq 6 _ hmod]
      rw [hsplit, List.append_assoc] at hT
      refine Text_l0R L i (by omega) hL (padr 6 (m % 1000000) ++ s) ?_ 6 (m % 1000000) 0 s _ (by omega) (by omega) (by omega) rfl ?_
      · intro S he
        simp only [En, and_true] at he
        simp (disch := omega) only [sd_t, dec_t, dec_f, i64_in, u32_in, u64_in, i64_quo, u32_quo, u64_quo, rem_in, Int.toNat_of_nonneg, go_sem, reduceCtorEq, ↓reduceIte, Nat.reduceEqDiff, Nat.reduceAdd, Nat.reduceSub, Nat.reduceMul, Nat.reduceLT, Nat.reduceLeDiff, Nat.reduceBEq, Nat.reduceBNe, Nat.reducePow, Nat.reduceDiv, Nat.reduceMod, Int.reduceAdd, Int.reduceSub, Int.reduceMul, Int.reduceLT, Int.reduceLE, Int.reduceEq, Int.reduceNe, Int.reduceNeg, Int.reduceToNat, Int.reducePow, Int.reduceDiv, Int.reduceMod, F_waypointref01_Text_k0, he]
        refine ih (m / 1000000) (by omega) (i + 1) (padr 6 (m % 1000000) ++ s) _ h0 (by omega) hd2 (by rw [List.length_append]; omega) hT ?_
        simp only [go_sem, reduceCtorEq, ↓reduceIte, Nat.reduceEqDiff, Nat.reduceAdd, Nat.reduceSub, Nat.reduceMul, Nat.reduceLT, Nat.reduceLeDiff, Nat.reduceBEq, Nat.reduceBNe, Nat.reducePow, Nat.reduceDiv, Nat.reduceMod, Int.reduceAdd, Int.reduceSub, Int.reduceMul, Int.reduceLT, Int.reduceLE, Int.reduceEq, Int.reduceNe, Int.reduceNeg, Int.reduceToNat, Int.reducePow, Int.reduceDiv, Int.reduceMod, he]
      · simp only [go_sem, reduceCtorEq, ↓reduceIte, Nat.reduceEqDiff, Nat.reduceAdd, Nat.reduceSub, Nat.reduceMul, Nat.reduceLT, Nat.reduceLeDiff, Nat.reduceBEq, Nat.reduceBNe, Nat.reducePow, Nat.reduceDiv, Nat.reduceMod, Int.reduceAdd, Int.reduceSub, Int.reduceMul, Int.reduceLT, Int.reduceLE, Int.reduceEq, Int.reduceNe, Int.reduceNeg, Int.reduceToNat, Int.reducePow, Int.reduceDiv, Int.reduceMod, he]
theorem Text_fnR (hP : X.P = Tryd.prog) (n : Nat) (hl : (dg 1000000 n).length ≤ 100000000000) : Fn X 27 [i64s (dg 1000000 n)] (.sc (.string ⟨(txt n).toArray⟩)) := by
  refine W_waypointref01_Text hP rfl ?_
  rcases Nat.eq_zero_or_pos n with h0 | h0
  · subst h0
    simp (disch := omega) only [sd_t, dec_t, dec_f, i64_in, u32_in, u64_in, i64_quo, u32_quo, u64_quo, rem_in, Int.toNat_of_nonneg, go_sem, reduceCtorEq, ↓reduceIte, Nat.reduceEqDiff, Nat.reduceAdd, Nat.reduceSub, Nat.reduceMul, Nat.reduceLT, Nat.reduceLeDiff, Nat.reduceBEq, Nat.reduceBNe, Nat.reducePow, Nat.reduceDiv, Nat.reduceMod, Int.reduceAdd, Int.reduceSub, Int.reduceMul, Int.reduceLT, Int.reduceLE, Int.reduceEq, Int.reduceNe, Int.reduceNeg, Int.reduceToNat, Int.reducePow, Int.reduceDiv, Int.reduceMod, F_waypointref01_Text, R_waypointref01_Text, dg_zero, List.length_nil, txt_zero]
  · have hp : 0 < (dg 1000000 n).length := by rw [dg_pos (by omega) h0]; simp
    simp (disch := omega) only [sd_t, dec_t, dec_f, i64_in, u32_in, u64_in, i64_quo, u32_quo, u64_quo, rem_in, Int.toNat_of_nonneg, go_sem, reduceCtorEq, ↓reduceIte, Nat.reduceEqDiff, Nat.reduceAdd, Nat.reduceSub, Nat.reduceMul, Nat.reduceLT, Nat.reduceLeDiff, Nat.reduceBEq, Nat.reduceBNe, Nat.reducePow, Nat.reduceDiv, Nat.reduceMod, Int.reduceAdd, Int.reduceSub, Int.reduceMul, Int.reduceLT, Int.reduceLE, Int.reduceEq, Int.reduceNe, Int.reduceNeg, Int.reduceToNat, Int.reducePow, Int.reduceDiv, Int.reduceMod, F_waypointref01_Text]
    refine Text_l1R (dg 1000000 n) hl (txt n) ?_ n 0 [] _ h0 hp rfl (by simp) (by rw [txt_pos n h0, List.append_nil]) ?_
    · intro S he
      simp only [En, and_true] at he
      simp (disch := omega) only [sd_t, dec_t, dec_f, i64_in, u32_in, u64_in, i64_quo, u32_quo, u64_quo, rem_in, Int.toNat_of_nonneg, go_sem, reduceCtorEq, ↓reduceIte, Nat.reduceEqDiff, Nat.reduceAdd, Nat.reduceSub, Nat.reduceMul, Nat.reduceLT, Nat.reduceLeDiff, Nat.reduceBEq, Nat.reduceBNe, Nat.reducePow, Nat.reduceDiv, Nat.reduceMod, Int.reduceAdd, Int.reduceSub, Int.reduceMul, Int.reduceLT, Int.reduceLE, Int.reduceEq, Int.reduceNe, Int.reduceNeg, Int.reduceToNat, Int.reducePow, Int.reduceDiv, Int.reduceMod, F_waypointref01_Text_k1, R_waypointref01_Text, he]
    · simp only [go_sem, reduceCtorEq, ↓reduceIte, Nat.reduceEqDiff, Nat.reduceAdd, Nat.reduceSub, Nat.reduceMul, Nat.reduceLT, Nat.reduceLeDiff, Nat.reduceBEq, Nat.reduceBNe, Nat.reducePow, Nat.reduceDiv, Nat.reduceMod, Int.reduceAdd, Int.reduceSub, Int.reduceMul, Int.reduceLT, Int.reduceLE, Int.reduceEq, Int.reduceNe, Int.reduceNeg, Int.reduceToNat, Int.reducePow, Int.reduceDiv, Int.reduceMod]
end Go.Proofs.YtmjkhbjfacfmcaaDoor.VX
end
section
namespace Go.Proofs.YtmjkhbjfacfmcaaDoor.VX
open Go
set_option linter.unusedVariables false
def F_waypointlaw01_awake : C := (.seq (.reg [⟨some 0, none, [], [], .mov (.k (.sc (.bool false)))⟩]) (.seq (.reg [⟨some 7, none, [], [], .cp 24 [(.k (.sc (.int .u64 4294967296)))]⟩, ⟨some 1, none, [], [], .al 100 26 [(.sl 1 [])]⟩, ⟨none, none, [], [], .st 1 [] (.t 1) (.t 7)⟩]) (.seq (.reg [⟨some 9, none, [], [], .cp 24 [(.k (.sc (.int .u64 17)))]⟩, ⟨some 10, none, [], [], .cp 24 [(.k (.sc (.int .u64 5)))]⟩, ⟨some 11, none, [], [], .cp 19 [(.t 9), (.t 10)]⟩, ⟨some 8, none, [], [], .mov (.t 11)⟩, ⟨some 12, none, [], [], .ext (.t 8) 0⟩, ⟨some 13, none, [], [], .ext (.t 8) 1⟩, ⟨some 14, none, [], [], .ext (.t 8) 2⟩, ⟨some 2, none, [], [], .al 101 26 [(.sl 1 [])]⟩, ⟨some 3, none, [], [], .al 102 26 [(.sl 1 [])]⟩, ⟨none, none, [], [], .st 1 [] (.t 2) (.t 12)⟩, ⟨none, none, [], [], .st 1 [] (.t 3) (.t 13)⟩, ⟨some 4, none, [], [], .mov (.t 14)⟩]) (.seq (.reg [⟨some 16, none, [], [], .cp 11 [(.k (.sc (.string ⟨#[48, 48, 55]⟩)))]⟩, ⟨some 15, none, [], [], .mov (.t 16)⟩, ⟨some 17, none, [], [], .ext (.t 15) 0⟩, ⟨some 18, none, [], [], .ext (.t 15) 1⟩, ⟨some 5, none, [], [], .al 103 26 [(.sl 1 [])]⟩, ⟨none, none, [], [], .st 1 [] (.t 5) (.t 17)⟩, ⟨some 6, none, [], [], .mov (.t 18)⟩]) (.seq (.reg [⟨some 19, none, [], [], .ld 1 true (.t 1)⟩, ⟨some 20, none, [], [], .ld 1 true (.t 1)⟩, ⟨some 21, none, [], [], .cp 17 [(.t 19), (.t 20)]⟩, ⟨some 22, none, [], [], .cp 12 [(.t 21)]⟩, ⟨some 23, none, [], [], .bin .eql (.t 22) (.k (.sc (.string ⟨#[49, 56, 52, 52, 54, 55, 52, 52, 48, 55, 51, 55, 48, 57, 53, 53, 49, 54, 49, 54]⟩)))⟩, ⟨some 24, none, [], [], .mov (.t 23)⟩, ⟨some 25, (some (24, true)), [], [], .ld 1 true (.t 1)⟩, ⟨some 26, (some (24, true)), [], [], .ld 1 true (.t 1)⟩, ⟨some 27, (some (24, true)), [], [], .cp 17 [(.t 25), (.t 26)]⟩, ⟨some 28, (some (24, true)), [], [], .cp 25 [(.t 27)]⟩, ⟨some 29, (some (24, true)), [], [], .bin .eql (.t 28) (.k (.sc (.int .i64 65)))⟩, ⟨some 30, none, [], [], .pk (.t 24) (.t 29) (.k (.sc (.bool false)))⟩, ⟨some 31, none, [], [], .mov (.t 30)⟩, ⟨some 32, (some (31, true)), [], [], .mov (.t 4)⟩, ⟨some 33, (some (31, true)), [], [], .bin .eql (.t 32) (.k (.sc (.int .i64 0)))⟩, ⟨some 34, none, [], [], .pk (.t 31) (.t 33) (.k (.sc (.bool false)))⟩, ⟨some 35, none, [], [], .mov (.t 34)⟩, ⟨some 36, (some (35, true)), [], [], .ld 1 true (.t 2)⟩, ⟨some 37, (some (35, true)), [], [], .cp 12 [(.t 36)]⟩, ⟨some 38, (some (35, true)), [], [], .bin .eql (.t 37) (.k (.sc (.string ⟨#[51]⟩)))⟩, ⟨some 39, none, [], [], .pk (.t 35) (.t 38) (.k (.sc (.bool false)))⟩, ⟨some 40, none, [], [], .mov (.t 39)⟩, ⟨some 41, (some (40, true)), [], [], .ld 1 true (.t 3)⟩, ⟨some 42, (some (40, true)), [], [], .cp 12 [(.t 41)]⟩, ⟨some 43, (some (40, true)), [], [], .bin .eql (.t 42) (.k (.sc (.string ⟨#[50]⟩)))⟩, ⟨some 44, none, [], [], .pk (.t 40) (.t 43) (.k (.sc (.bool false)))⟩, ⟨some 45, none, [], [], .mov (.t 44)⟩, ⟨some 46, (some (45, true)), [], [], .cp 24 [(.k (.sc (.int .u64 12)))]⟩, ⟨some 47, (some (45, true)), [], [], .cp 24 [(.k (.sc (.int .u64 18)))]⟩, ⟨some 48, (some (45, true)), [], [], .cp 21 [(.t 46), (.t 47)]⟩, ⟨some 49, (some (45, true)), [], [], .cp 12 [(.t 48)]⟩, ⟨some 50, (some (45, true)), [], [], .bin .eql (.t 49) (.k (.sc (.string ⟨#[54]⟩)))⟩, ⟨some 51, none, [], [], .pk (.t 45) (.t 50) (.k (.sc (.bool false)))⟩, ⟨some 52, none, [], [], .mov (.t 51)⟩, ⟨some 53, (some (52, true)), [], [], .mov (.t 6)⟩, ⟨some 54, (some (52, true)), [], [], .bin .eql (.t 53) (.k (.sc (.int .i64 3)))⟩, ⟨some 55, none, [], [], .pk (.t 52) (.t 54) (.k (.sc (.bool false)))⟩, ⟨some 0, none, [], [], .mov (.t 55)⟩]) .ret)))))
def R_waypointlaw01_awake : List RV := [.t 0]
theorem C_waypointlaw01_awake : (chkC Tryd.prog Tryd.f8.ntmps F_waypointlaw01_awake (Tryd.f8.body.getD .skip) && chkRVs Tryd.prog R_waypointlaw01_awake Tryd.f8.results.toList && decide (R_waypointlaw01_awake.length ≤ 4) && decide (0 ≤ Tryd.f8.ntmps)) = true := by kernel_rfl
theorem W_waypointlaw01_awake {X : Ctx} (hP : X.P = Tryd.prog) {args : List V} {r : V} (hn : args.length = 0) (h : wpC X F_waypointlaw01_awake (retQ R_waypointlaw01_awake [] fun H e => H = noH ∧ e = .v r) ⟨argE 0 (args.map .v), noH⟩) : Fn X 8 args r := fn_of hP Tryd.func8 rfl C_waypointlaw01_awake hn h
def F_waypointlaw01_small : C := (.seq (.reg [⟨some 4, none, [], [], .mov (.k (.sc (.bool false)))⟩]) (.seq (.reg [⟨some 5, none, [], [], .mov (.t 0)⟩, ⟨some 6, none, [], [], .len false (.t 5)⟩, ⟨some 7, none, [], [], .bin .leq (.t 6) (.k (.sc (.int .i64 12)))⟩, ⟨some 8, none, [], [], .mov (.t 7)⟩, ⟨some 9, (some (8, true)), [], [], .mov (.t 1)⟩, ⟨some 10, (some (8, true)), [], [], .len false (.t 9)⟩, ⟨some 11, (some (8, true)), [], [], .bin .leq (.t 10) (.k (.sc (.int .i64 12)))⟩, ⟨some 12, none, [], [], .pk (.t 8) (.t 11) (.k (.sc (.bool false)))⟩, ⟨some 4, none, [], [], .mov (.t 12)⟩]) .ret))
def R_waypointlaw01_small : List RV := [.t 4]
theorem C_waypointlaw01_small : (chkC Tryd.prog Tryd.f9.ntmps F_waypointlaw01_small (Tryd.f9.body.getD .skip) && chkRVs Tryd.prog R_waypointlaw01_small Tryd.f9.results.toList && decide (R_waypointlaw01_small.length ≤ 4) && decide (2 ≤ Tryd.f9.ntmps)) = true := by kernel_rfl
theorem W_waypointlaw01_small {X : Ctx} (hP : X.P = Tryd.prog) {args : List V} {r : V} (hn : args.length = 2) (h : wpC X F_waypointlaw01_small (retQ R_waypointlaw01_small [] fun H e => H = noH ∧ e = .v r) ⟨argE 0 (args.map .v), noH⟩) : Fn X 9 args r := fn_of hP Tryd.func9 rfl C_waypointlaw01_small hn h
def F_waypointlaw01_number : C := (.seq (.reg [⟨some 2, none, [], [], .al 100 26 [(.sl 1 [])]⟩, ⟨some 3, none, [], [], .mov (.k (.sl 1 []))⟩]) (.seq (.reg [⟨some 7, none, [], [], .mov (.t 0)⟩, ⟨some 8, none, [], [], .cp 26 [(.t 7)]⟩, ⟨some 4, none, [], [], .mov (.t 8)⟩]) (.seq (.reg [⟨some 10, none, [], [], .mov (.t 4)⟩, ⟨some 11, none, [], [], .cp 27 [(.t 10)]⟩, ⟨some 12, none, [], [], .cp 11 [(.t 11)]⟩, ⟨some 9, none, [], [], .mov (.t 12)⟩, ⟨some 13, none, [], [], .ext (.t 9) 0⟩, ⟨some 14, none, [], [], .ext (.t 9) 1⟩, ⟨some 5, none, [], [], .al 101 26 [(.sl 1 [])]⟩, ⟨none, none, [], [], .st 1 [] (.t 5) (.t 13)⟩, ⟨some 6, none, [], [], .mov (.t 14)⟩]) (.seq (.reg [⟨some 15, none, [], [], .ld 1 true (.t 5)⟩, ⟨some 16, none, [], [], .mov (.t 4)⟩, ⟨none, none, [], [], .st 1 [] (.t 2) (.t 15)⟩, ⟨some 3, none, [], [], .mov (.t 16)⟩]) .ret))))
def R_waypointlaw01_number : List RV := [.c 2 1 true, .t 3]
theorem C_waypointlaw01_number : (chkC Tryd.prog Tryd.f10.ntmps F_waypointlaw01_number (Tryd.f10.body.getD .skip) && chkRVs Tryd.prog R_waypointlaw01_number Tryd.f10.results.toList && decide (R_waypointlaw01_number.length ≤ 4) && decide (1 ≤ Tryd.f10.ntmps)) = true := by kernel_rfl
theorem W_waypointlaw01_number {X : Ctx} (hP : X.P = Tryd.prog) {args : List V} {r : V} (hn : args.length = 1) (h : wpC X F_waypointlaw01_number (retQ R_waypointlaw01_number [] fun H e => H = noH ∧ e = .v r) ⟨argE 0 (args.map .v), noH⟩) : Fn X 10 args r := fn_of hP Tryd.func10 rfl C_waypointlaw01_number hn h
def F_waypointlaw01_same : C := (.seq (.reg [⟨some 2, none, [], [], .bx 100 26 (.t 0)⟩, ⟨some 3, none, [], [], .bx 101 26 (.t 1)⟩, ⟨some 4, none, [], [], .mov (.k (.sc (.bool false)))⟩]) (.seq (.reg [⟨some 5, none, [], [], .ld 1 true (.t 2)⟩, ⟨some 6, none, [], [], .ld 1 true (.t 3)⟩, ⟨some 7, none, [], [], .cp 14 [(.t 5), (.t 6)]⟩, ⟨some 8, none, [], [], .bin .eql (.t 7) (.k (.sc (.int .i64 0)))⟩, ⟨some 9, none, [], [], .mov (.t 8)⟩, ⟨some 10, (some (9, true)), [], [], .ld 1 true (.t 2)⟩, ⟨some 11, (some (9, true)), [], [], .cp 12 [(.t 10)]⟩, ⟨some 12, (some (9, true)), [], [], .ld 1 true (.t 3)⟩, ⟨some 13, (some (9, true)), [], [], .cp 12 [(.t 12)]⟩, ⟨some 14, (some (9, true)), [], [], .bin .eql (.t 11) (.t 13)⟩, ⟨some 15, none, [], [], .pk (.t 9) (.t 14) (.k (.sc (.bool false)))⟩, ⟨some 4, none, [], [], .mov (.t 15)⟩]) .ret))
def R_waypointlaw01_same : List RV := [.t 4]
theorem C_waypointlaw01_same : (chkC Tryd.prog Tryd.f23.ntmps F_waypointlaw01_same (Tryd.f23.body.getD .skip) && chkRVs Tryd.prog R_waypointlaw01_same Tryd.f23.results.toList && decide (R_waypointlaw01_same.length ≤ 4) && decide (2 ≤ Tryd.f23.ntmps)) = true := by kernel_rfl
theorem W_waypointlaw01_same {X : Ctx} (hP : X.P = Tryd.prog) {args : List V} {r : V} (hn : args.length = 2) (h : wpC X F_waypointlaw01_same (retQ R_waypointlaw01_same [] fun H e => H = noH ∧ e = .v r) ⟨argE 0 (args.map .v), noH⟩) : Fn X 23 args r := fn_of hP Tryd.func23 rfl C_waypointlaw01_same hn h
def F_waypointlaw01_NatAlgebra : C := (.seq (.reg [⟨some 6, none, [], [], .mov (.k (.sc (.bool false)))⟩]) (.seq (.seq (.reg [⟨some 15, none, [], [], .cp 8 []⟩, ⟨some 16, none, [], [], .un .not (.t 15)⟩]) (.cond (.t 16) (.seq (.reg [⟨some 6, none, [], [], .mov (.k (.sc (.bool false)))⟩]) .ret) .skip)) (.seq (.seq (.reg [⟨some 17, none, [], [], .mov (.t 0)⟩, ⟨some 18, none, [], [], .mov (.t 1)⟩, ⟨some 19, none, [], [], .cp 9 [(.t 17), (.t 18)]⟩, ⟨some 20, none, [], [], .un .not (.t 19)⟩, ⟨some 21, none, [], [], .mov (.t 20)⟩, ⟨some 22, (some (21, false)), [], [], .mov (.t 2)⟩, ⟨some 23, (some (21, false)), [], [], .cp 9 [(.t 22), (.k (.sl 1 []))]⟩, ⟨some 24, (some (21, false)), [], [], .un .not (.t 23)⟩, ⟨some 25, none, [], [], .pk (.t 21) (.k (.sc (.bool true))) (.t 24)⟩]) (.cond (.t 25) (.seq (.reg [⟨some 6, none, [], [], .mov (.k (.sc (.bool true)))⟩]) .ret) .skip)) (.seq (.reg [⟨some 27, none, [], [], .mov (.t 0)⟩, ⟨some 28, none, [], [], .cp 10 [(.t 27)]⟩, ⟨some 26, none, [], [], .mov (.t 28)⟩, ⟨some 29, none, [], [], .ext (.t 26) 0⟩, ⟨some 30, none, [], [], .ext (.t 26) 1⟩, ⟨some 7, none, [], [], .al 100 26 [(.sl 1 [])]⟩, ⟨none, none, [], [], .st 1 [] (.t 7) (.t 29)⟩, ⟨some 8, none, [], [], .mov (.t 30)⟩]) (.seq (.reg [⟨some 32, none, [], [], .mov (.t 1)⟩, ⟨some 33, none, [], [], .cp 10 [(.t 32)]⟩, ⟨some 31, none, [], [], .mov (.t 33)⟩, ⟨some 34, none, [], [], .ext (.t 31) 0⟩, ⟨some 35, none, [], [], .ext (.t 31) 1⟩, ⟨some 9, none, [], [], .al 101 26 [(.sl 1 [])]⟩, ⟨none, none, [], [], .st 1 [] (.t 9) (.t 34)⟩, ⟨some 10, none, [], [], .mov (.t 35)⟩]) (.seq (.reg [⟨some 37, none, [], [], .mov (.t 2)⟩, ⟨some 38, none, [], [], .cp 10 [(.t 37)]⟩, ⟨some 36, none, [], [], .mov (.t 38)⟩, ⟨some 39, none, [], [], .ext (.t 36) 0⟩, ⟨some 40, none, [], [], .ext (.t 36) 1⟩, ⟨some 11, none, [], [], .al 102 26 [(.sl 1 [])]⟩, ⟨none, none, [], [], .st 1 [] (.t 11) (.t 39)⟩, ⟨some 12, none, [], [], .mov (.t 40)⟩]) (.seq (.reg [⟨some 42, none, [103], [], .ld 1 true (.t 7)⟩, ⟨some 43, none, [103], [], .ld 1 true (.t 9)⟩, ⟨some 44, none, [], [], .cp 20 [(.t 42), (.t 43)]⟩, ⟨some 45, none, [103], [], .ld 1 true (.t 9)⟩, ⟨some 46, none, [], [], .cp 22 [(.t 44), (.t 45)]⟩, ⟨some 41, none, [], [], .mov (.t 46)⟩, ⟨some 47, none, [], [], .ext (.t 41) 0⟩, ⟨some 48, none, [], [], .ext (.t 41) 1⟩, ⟨some 13, none, [], [], .al 103 26 [(.sl 1 [])]⟩, ⟨none, none, [], [], .st 1 [103] (.t 13) (.t 47)⟩, ⟨some 14, none, [], [], .mov (.t 48)⟩]) (.seq (.reg [⟨some 49, none, [], [], .ld 1 true (.t 7)⟩, ⟨some 50, none, [], [], .ld 1 true (.t 9)⟩, ⟨some 51, none, [], [], .cp 20 [(.t 49), (.t 50)]⟩, ⟨some 52, none, [], [], .ld 1 true (.t 9)⟩, ⟨some 53, none, [], [], .ld 1 true (.t 7)⟩, ⟨some 54, none, [], [], .cp 20 [(.t 52), (.t 53)]⟩, ⟨some 55, none, [], [], .cp 23 [(.t 51), (.t 54)]⟩, ⟨some 56, none, [], [], .mov (.t 55)⟩, ⟨some 57, (some (56, true)), [], [], .ld 1 true (.t 7)⟩, ⟨some 58, (some (56, true)), [], [], .ld 1 true (.t 9)⟩, ⟨some 59, (some (56, true)), [], [], .cp 20 [(.t 57), (.t 58)]⟩, ⟨some 60, (some (56, true)), [], [], .ld 1 true (.t 11)⟩, ⟨some 61, (some (56, true)), [], [], .cp 20 [(.t 59), (.t 60)]⟩, ⟨some 62, (some (56, true)), [], [], .ld 1 true (.t 7)⟩, ⟨some 63, (some (56, true)), [], [], .ld 1 true (.t 9)⟩, ⟨some 64, (some (56, true)), [], [], .ld 1 true (.t 11)⟩, ⟨some 65, (some (56, true)), [], [], .cp 20 [(.t 63), (.t 64)]⟩, ⟨some 66, (some (56, true)), [], [], .cp 20 [(.t 62), (.t 65)]⟩, ⟨some 67, (some (56, true)), [], [], .cp 23 [(.t 61), (.t 66)]⟩, ⟨some 68, none, [], [], .pk (.t 56) (.t 67) (.k (.sc (.bool false)))⟩, ⟨some 69, none, [], [], .mov (.t 68)⟩, ⟨some 70, (some (69, true)), [], [], .ld 1 true (.t 7)⟩, ⟨some 71, (some (69, true)), [], [], .ld 1 true (.t 9)⟩, ⟨some 72, (some (69, true)), [], [], .cp 17 [(.t 70), (.t 71)]⟩, ⟨some 73, (some (69, true)), [], [], .ld 1 true (.t 9)⟩, ⟨some 74, (some (69, true)), [], [], .ld 1 true (.t 7)⟩, ⟨some 75, (some (69, true)), [], [], .cp 17 [(.t 73), (.t 74)]⟩, ⟨some 76, (some (69, true)), [], [], .cp 23 [(.t 72), (.t 75)]⟩, ⟨some 77, none, [], [], .pk (.t 69) (.t 76) (.k (.sc (.bool false)))⟩, ⟨some 78, none, [], [], .mov (.t 77)⟩, ⟨some 79, (some (78, true)), [], [], .ld 1 true (.t 7)⟩, ⟨some 80, (some (78, true)), [], [], .ld 1 true (.t 9)⟩, ⟨some 81, (some (78, true)), [], [], .cp 17 [(.t 79), (.t 80)]⟩, ⟨some 82, (some (78, true)), [], [], .ld 1 true (.t 11)⟩, ⟨some 83, (some (78, true)), [], [], .cp 17 [(.t 81), (.t 82)]⟩, ⟨some 84, (some (78, true)), [], [], .ld 1 true (.t 7)⟩, ⟨some 85, (some (78, true)), [], [], .ld 1 true (.t 9)⟩, ⟨some 86, (some (78, true)), [], [], .ld 1 true (.t 11)⟩, ⟨some 87, (some (78, true)), [], [], .cp 17 [(.t 85), (.t 86)]⟩, ⟨some 88, (some (78, true)), [], [], .cp 17 [(.t 84), (.t 87)]⟩, ⟨some 89, (some (78, true)), [], [], .cp 23 [(.t 83), (.t 88)]⟩, ⟨some 90, none, [], [], .pk (.t 78) (.t 89) (.k (.sc (.bool false)))⟩, ⟨some 91, none, [], [], .mov (.t 90)⟩, ⟨some 92, (some (91, true)), [], [], .ld 1 true (.t 7)⟩, ⟨some 93, (some (91, true)), [], [], .ld 1 true (.t 9)⟩, ⟨some 94, (some (91, true)), [], [], .ld 1 true (.t 11)⟩, ⟨some 95, (some (91, true)), [], [], .cp 20 [(.t 93), (.t 94)]⟩, ⟨some 96, (some (91, true)), [], [], .cp 17 [(.t 92), (.t 95)]⟩, ⟨some 97, (some (91, true)), [], [], .ld 1 true (.t 7)⟩, ⟨some 98, (some (91, true)), [], [], .ld 1 true (.t 9)⟩, ⟨some 99, (some (91, true)), [], [], .cp 17 [(.t 97), (.t 98)]⟩, ⟨some 100, (some (91, true)), [], [], .ld 1 true (.t 7)⟩, ⟨some 101, (some (91, true)), [], [], .ld 1 true (.t 11)⟩, ⟨some 102, (some (91, true)), [], [], .cp 17 [(.t 100), (.t 101)]⟩, ⟨some 103, (some (91, true)), [], [], .cp 20 [(.t 99), (.t 102)]⟩, ⟨some 104, (some (91, true)), [], [], .cp 23 [(.t 96), (.t 103)]⟩, ⟨some 105, none, [], [], .pk (.t 91) (.t 104) (.k (.sc (.bool false)))⟩, ⟨some 106, none, [], [], .mov (.t 105)⟩, ⟨some 107, (some (106, true)), [], [], .mov (.t 14)⟩, ⟨some 108, (some (106, true)), [], [], .bin .eql (.t 107) (.k (.sc (.int .i64 0)))⟩, ⟨some 109, none, [], [], .pk (.t 106) (.t 108) (.k (.sc (.bool false)))⟩, ⟨some 110, none, [], [], .mov (.t 109)⟩, ⟨some 111, (some (110, true)), [], [], .ld 1 true (.t 13)⟩, ⟨some 112, (some (110, true)), [], [], .ld 1 true (.t 7)⟩, ⟨some 113, (some (110, true)), [], [], .cp 23 [(.t 111), (.t 112)]⟩, ⟨some 114, none, [], [], .pk (.t 110) (.t 113) (.k (.sc (.bool false)))⟩, ⟨some 6, none, [], [], .mov (.t 114)⟩]) .ret))))))))
def R_waypointlaw01_NatAlgebra : List RV := [.t 6]
theorem C_waypointlaw01_NatAlgebra : (chkC Tryd.prog Tryd.f7.ntmps F_waypointlaw01_NatAlgebra (Tryd.f7.body.getD .skip) && chkRVs Tryd.prog R_waypointlaw01_NatAlgebra Tryd.f7.results.toList && decide (R_waypointlaw01_NatAlgebra.length ≤ 4) && decide (3 ≤ Tryd.f7.ntmps)) = true := by kernel_rfl
theorem W_waypointlaw01_NatAlgebra {X : Ctx} (hP : X.P = Tryd.prog) {args : List V} {r : V} (hn : args.length = 3) (h : wpC X F_waypointlaw01_NatAlgebra (retQ R_waypointlaw01_NatAlgebra [] fun H e => H = noH ∧ e = .v r) ⟨argE 0 (args.map .v), noH⟩) : Fn X 7 args r := fn_of hP Tryd.func7 rfl C_waypointlaw01_NatAlgebra hn h
end Go.Proofs.YtmjkhbjfacfmcaaDoor.VX
end
section
namespace Go.Proofs.YtmjkhbjfacfmcaaDoor.VX
open Go Go.RowKit Go.Proofs.YtmjkhbjfacfmcaaDoor.NM Go.Proofs.YtmjkhbjfacfmcaaDoor.NT Go.Proofs.YtmjkhbjfacfmcaaDoor.RV IntWalk
set_option linter.unusedVariables false
set_option linter.unusedSimpArgs false
variable {X : Ctx}
theorem pow_grow {a b : Nat} (c k : Nat) (h : a ≤ b ^ c) : a ^ k ≤ b ^ (c * k) := by
  rw [Nat.pow_mul]; exact Nat.pow_le_pow_left h k
def Sz (k n : Nat) : Prop := n < 4294967296 ^ k
theorem Sz.d32 {k n : Nat} (h : Sz k n) : (dg 4294967296 n).length ≤ k := dg_length (by omega) h
theorem Sz.d6 {k n : Nat} (h : Sz k n) : (dg 1000000 n).length ≤ 2 * k := dg_length (by omega) (Nat.lt_of_lt_of_le h (pow_grow 2 k (by omega)))
theorem Sz.txt {k n : Nat} (h : Sz k n) (hk : 1 ≤ k) : (txt n).length ≤ 10 * k := (txt_le (by omega) (Nat.lt_of_lt_of_le h (pow_grow 10 k (by omega)))).2
theorem Sz.mono {k m n : Nat} (h : Sz k n) (hkm : k ≤ m) : Sz m n := Nat.lt_of_lt_of_le h (Nat.pow_le_pow_right (by omega) hkm)
theorem Sz.mul {k m a b : Nat} (h : Sz k a) (g : Sz m b) : Sz (k + m) (a * b) := by
  unfold Sz at *
  rw [Nat.pow_add]
  exact Nat.mul_lt_mul'' h g
theorem Sz.add {k a b : Nat} (h : Sz k a) (g : Sz k b) : Sz (k + 1) (a + b) := by
  unfold Sz at *
  rw [Nat.pow_succ]
  generalize 4294967296 ^ k = P at *
  omega
theorem num_sz {l : List Int} (hl : Dig 4294967296 l) {k : Nat} (hk : l.length ≤ k) : Sz k (num l) := Sz.mono (num_lt hl) hk
theorem txt_good (n : Nat) : Digits (txt n) ∧ txt n ≠ [] ∧ ∀ c r, txt n = c :: r → c.toNat = 48 → r = [] := by
  refine ⟨digits_txt n, ?_, ?_⟩
  · rcases Nat.eq_zero_or_pos n with h0 | h0
    · subst h0; rw [txt_zero]; simp
    · rw [txt_pos n h0]
      obtain ⟨c, l, h1, _⟩ := dec_head n h0
      rw [h1]; simp
  · intro c r e hc
    rcases Nat.eq_zero_or_pos n with h0 | h0
    · subst h0; rw [txt_zero] at e; cases e; rfl
    · rw [txt_pos n h0] at e
      obtain ⟨c', l, h1, h2⟩ := dec_head n h0
      rw [h1] at e; cases e; exact absurd hc h2
theorem Parse_txt (hL : LibS X) (n : Nat) (h : (txt n).length ≤ 1000) : Fn X 11 [vs (txt n)] (.tu [nat (dg 4294967296 n), vi .i64 0]) := by
  obtain ⟨h1, h2, h3⟩ := txt_good n
  have := Parse_ok hL (txt n) h1 h2 h3 h
  rwa [pv_txt] at this
theorem number_fn (hL : LibS X) (l : List Int) (hl : Dig 4294967296 l) (hn : l.length ≤ 12) : Fn X 10 [u32s l] (.tu [nat (dg 4294967296 (num l)), i64s (dg 1000000 (num l))]) := by
  have hs := num_sz hl hn
  have h1 := hs.d6
  have h2 := hs.txt (by omega)
  refine W_waypointlaw01_number hL.P rfl ?_
  simp (disch := omega) only [sd_t, dec_t, dec_f, i64_in, u32_in, u64_in, i64_quo, u32_quo, u64_quo, rem_in, Int.toNat_of_nonneg, go_sem, reduceCtorEq, ↓reduceIte, Nat.reduceEqDiff, Nat.reduceAdd, Nat.reduceSub, Nat.reduceMul, Nat.reduceLT, Nat.reduceLeDiff, Nat.reduceBEq, Nat.reduceBNe, Nat.reducePow, Nat.reduceDiv, Nat.reduceMod, Int.reduceAdd, Int.reduceSub, Int.reduceMul, Int.reduceLT, Int.reduceLE, Int.reduceEq, Int.reduceNe, Int.reduceNeg, Int.reduceToNat, Int.reducePow, Int.reduceDiv, Int.reduceMod, F_waypointlaw01_number, R_waypointlaw01_number]
  refine cp_of (Make_fnR hL.P l hl (by omega)) rfl ?_
  simp (disch := omega) only [sd_t, dec_t, dec_f, i64_in, u32_in, u64_in, i64_quo, u32_quo, u64_quo, rem_in, Int.toNat_of_nonneg, go_sem, reduceCtorEq, ↓reduceIte, Nat.reduceEqDiff, Nat.reduceAdd, Nat.reduceSub, Nat.reduceMul, Nat.reduceLT, Nat.reduceLeDiff, Nat.reduceBEq, Nat.reduceBNe, Nat.reducePow, Nat.reduceDiv, Nat.reduceMod, Int.reduceAdd, Int.reduceSub, Int.reduceMul, Int.reduceLT, Int.reduceLE, Int.reduceEq, Int.reduceNe, Int.reduceNeg, Int.reduceToNat, Int.reducePow, Int.reduceDiv, Int.reduceMod]
  refine cp_of (Text_fnR hL.P (num l) (by omega)) rfl ?_
  simp (disch := omega) only [sd_t, dec_t, dec_f, i64_in, u32_in, u64_in, i64_quo, u32_quo, u64_quo, rem_in, Int.toNat_of_nonneg, go_sem, reduceCtorEq, ↓reduceIte, Nat.reduceEqDiff, Nat.reduceAdd, Nat.reduceSub, Nat.reduceMul, Nat.reduceLT, Nat.reduceLeDiff, Nat.reduceBEq, Nat.reduceBNe, Nat.reducePow, Nat.reduceDiv, Nat.reduceMod, Int.reduceAdd, Int.reduceSub, Int.reduceMul, Int.reduceLT, Int.reduceLE, Int.reduceEq, Int.reduceNe, Int.reduceNeg, Int.reduceToNat, Int.reducePow, Int.reduceDiv, Int.reduceMod]
  refine cp_of (Parse_txt hL (num l) (by omega)) rfl ?_
  simp (disch := omega) only [sd_t, dec_t, dec_f, i64_in, u32_in, u64_in, i64_quo, u32_quo, u64_quo, rem_in, Int.toNat_of_nonneg, go_sem, reduceCtorEq, ↓reduceIte, Nat.reduceEqDiff, Nat.reduceAdd, Nat.reduceSub, Nat.reduceMul, Nat.reduceLT, Nat.reduceLeDiff, Nat.reduceBEq, Nat.reduceBNe, Nat.reducePow, Nat.reduceDiv, Nat.reduceMod, Int.reduceAdd, Int.reduceSub, Int.reduceMul, Int.reduceLT, Int.reduceLE, Int.reduceEq, Int.reduceNe, Int.reduceNeg, Int.reduceToNat, Int.reducePow, Int.reduceDiv, Int.reduceMod]
theorem small_fn (hP : X.P = Tryd.prog) (a b : List Int) : Fn X 9 [u32s a, u32s b] (.sc (.bool (decide (a.length ≤ 12 ∧ b.length ≤ 12)))) := by
  refine W_waypointlaw01_small hP rfl ?_
  by_cases h1 : a.length ≤ 12
  · by_cases h2 : b.length ≤ 12
    · rw [decide_eq_true ⟨h1, h2⟩]
      simp (disch := omega) only [sd_t, dec_t, dec_f, i64_in, u32_in, u64_in, i64_quo, u32_quo, u64_quo, rem_in, Int.toNat_of_nonneg, go_sem, reduceCtorEq, ↓reduceIte, Nat.reduceEqDiff, Nat.reduceAdd, Nat.reduceSub, Nat.reduceMul, Nat.reduceLT, Nat.reduceLeDiff, Nat.reduceBEq, Nat.reduceBNe, Nat.reducePow, Nat.reduceDiv, Nat.reduceMod, Int.reduceAdd, Int.reduceSub, Int.reduceMul, Int.reduceLT, Int.reduceLE, Int.reduceEq, Int.reduceNe, Int.reduceNeg, Int.reduceToNat, Int.reducePow, Int.reduceDiv, Int.reduceMod, F_waypointlaw01_small, R_waypointlaw01_small]
    · rw [decide_eq_false (by omega)]
      simp (disch := omega) only [sd_t, dec_t, dec_f, i64_in, u32_in, u64_in, i64_quo, u32_quo, u64_quo, rem_in, Int.toNat_of_nonneg, go_sem, reduceCtorEq, ↓reduceIte, Nat.reduceEqDiff, Nat.reduceAdd, Nat.reduceSub, Nat.reduceMul, Nat.reduceLT, Nat.reduceLeDiff, Nat.reduceBEq, Nat.reduceBNe, Nat.reducePow, Nat.reduceDiv, Nat.reduceMod, Int.reduceAdd, Int.reduceSub, Int.reduceMul, Int.reduceLT, Int.reduceLE, Int.reduceEq, Int.reduceNe, Int.reduceNeg, Int.reduceToNat, Int.reducePow, Int.reduceDiv, Int.reduceMod, F_waypointlaw01_small, R_waypointlaw01_small]
  · rw [decide_eq_false (by omega)]
    simp (disch := omega) only [sd_t, dec_t, dec_f, i64_in, u32_in, u64_in, i64_quo, u32_quo, u64_quo, rem_in, Int.toNat_of_nonneg, go_sem, reduceCtorEq, ↓reduceIte, Nat.reduceEqDiff, Nat.reduceAdd, Nat.reduceSub, Nat.reduceMul, Nat.reduceLT, Nat.reduceLeDiff, Nat.reduceBEq, Nat.reduceBNe, Nat.reducePow, Nat.reduceDiv, Nat.reduceMod, Int.reduceAdd, Int.reduceSub, Int.reduceMul, Int.reduceLT, Int.reduceLE, Int.reduceEq, Int.reduceNe, Int.reduceNeg, Int.reduceToNat, Int.reducePow, Int.reduceDiv, Int.reduceMod, F_waypointlaw01_small, R_waypointlaw01_small]
theorem same_fn (hL : LibS X) {n k : Nat} (h : Sz k n) (hk : k ≤ 100000) : Fn X 23 [nat (dg 4294967296 n), nat (dg 4294967296 n)] (.sc (.bool true)) := by
  have h2 := h.d32
  have hc : cmp (n : Int) (n : Int) = 0 := by unfold cmp; rw [if_neg (by omega), if_pos rfl]
  refine W_waypointlaw01_same hL.P rfl ?_
  simp (disch := omega) only [sd_t, dec_t, dec_f, i64_in, u32_in, u64_in, i64_quo, u32_quo, u64_quo, rem_in, Int.toNat_of_nonneg, go_sem, reduceCtorEq, ↓reduceIte, Nat.reduceEqDiff, Nat.reduceAdd, Nat.reduceSub, Nat.reduceMul, Nat.reduceLT, Nat.reduceLeDiff, Nat.reduceBEq, Nat.reduceBNe, Nat.reducePow, Nat.reduceDiv, Nat.reduceMod, Int.reduceAdd, Int.reduceSub, Int.reduceMul, Int.reduceLT, Int.reduceLE, Int.reduceEq, Int.reduceNe, Int.reduceNeg, Int.reduceToNat, Int.reducePow, Int.reduceDiv, Int.reduceMod, F_waypointlaw01_same, R_waypointlaw01_same]
  refine cp_of (Cmp_fn hL.P n n (by omega)) rfl ?_
  simp (disch := omega) only [sd_t, dec_t, dec_f, i64_in, u32_in, u64_in, i64_quo, u32_quo, u64_quo, rem_in, Int.toNat_of_nonneg, go_sem, reduceCtorEq, ↓reduceIte, Nat.reduceEqDiff, Nat.reduceAdd, Nat.reduceSub, Nat.reduceMul, Nat.reduceLT, Nat.reduceLeDiff, Nat.reduceBEq, Nat.reduceBNe, Nat.reducePow, Nat.reduceDiv, Nat.reduceMod, Int.reduceAdd, Int.reduceSub, Int.reduceMul, Int.reduceLT, Int.reduceLE, Int.reduceEq, Int.reduceNe, Int.reduceNeg, Int.reduceToNat, Int.reducePow, Int.reduceDiv, Int.reduceMod, hc]
  refine cp_of (Text_fn hL n (by omega)) rfl ?_
  simp (disch := omega) only [sd_t, dec_t, dec_f, i64_in, u32_in, u64_in, i64_quo, u32_quo, u64_quo, rem_in, Int.toNat_of_nonneg, go_sem, reduceCtorEq, ↓reduceIte, Nat.reduceEqDiff, Nat.reduceAdd, Nat.reduceSub, Nat.reduceMul, Nat.reduceLT, Nat.reduceLeDiff, Nat.reduceBEq, Nat.reduceBNe, Nat.reducePow, Nat.reduceDiv, Nat.reduceMod, Int.reduceAdd, Int.reduceSub, Int.reduceMul, Int.reduceLT, Int.reduceLE, Int.reduceEq, Int.reduceNe, Int.reduceNeg, Int.reduceToNat, Int.reducePow, Int.reduceDiv, Int.reduceMod]
  refine cp_of (Text_fn hL n (by omega)) rfl ?_
  simp (disch := omega) only [sd_t, dec_t, dec_f, i64_in, u32_in, u64_in, i64_quo, u32_quo, u64_quo, rem_in, Int.toNat_of_nonneg, go_sem, reduceCtorEq, ↓reduceIte, Nat.reduceEqDiff, Nat.reduceAdd, Nat.reduceSub, Nat.reduceMul, Nat.reduceLT, Nat.reduceLeDiff, Nat.reduceBEq, Nat.reduceBNe, Nat.reducePow, Nat.reduceDiv, Nat.reduceMod, Int.reduceAdd, Int.reduceSub, Int.reduceMul, Int.reduceLT, Int.reduceLE, Int.reduceEq, Int.reduceNe, Int.reduceNeg, Int.reduceToNat, Int.reducePow, Int.reduceDiv, Int.reduceMod]
theorem lit_txt (l : List UInt8) (n : Nat) (hv : pv 0 l = n) (hd : Digits l) (h0 : l ≠ []) (h1 : ∀ c r, l = c :: r → c.toNat = 48 → r = []) : txt n = l := by rw [← hv]; exact txt_pv hd h0 h1
theorem one_txt (c : UInt8) (h : 48 ≤ c.toNat ∧ c.toNat ≤ 57) : txt (dval c) = [c] := by
  have := txt_pv (l := [c]) (fun x hx => by rw [List.mem_singleton.1 hx]; exact h) (by simp) (fun c' r e _ => by injection e with _ e; exact e.symm)
  rw [pv_cons, pv_nil] at this
  rw [← this]; simp
theorem txt_big : txt 18446744073709551616 = [49, 56, 52, 52, 54, 55, 52, 52, 48, 55, 51, 55, 48, 57, 53, 53, 49, 54, 49, 54] := by
  refine lit_txt _ _ (by decide +kernel) ?_ (by simp) ?_
  · have : ∀ c ∈ ([49, 56, 52, 52, 54, 55, 52, 52, 48, 55, 51, 55, 48, 57, 53, 53, 49, 54, 49, 54] : List UInt8), 48 ≤ c.toNat ∧ c.toNat ≤ 57 := by decide +kernel
    exact this
  · intro c r e hc
    injection e with e1 e2
    subst e1
    exact absurd hc (by decide)
theorem txt_3 : txt 3 = [51] := one_txt 51 (by decide)
theorem txt_2 : txt 2 = [50] := one_txt 50 (by decide)
theorem txt_6 : txt 6 = [54] := one_txt 54 (by decide)
theorem bits_big : nbits 18446744073709551616 = 65 := nbits_of (k := 64) (by decide +kernel) (by decide +kernel)
theorem gcd_ex : Nat.gcd 12 18 = 6 := by decide +kernel
theorem small_len {n : Nat} (h : n < 4294967296) : (dg 4294967296 n).length ≤ 1 := dg_length (by omega) (by omega)
theorem awake_fn (hL : LibS X) : Fn X 8 [] (.sc (.bool true)) := by
  have hbig : (dg 4294967296 18446744073709551616).length ≤ 3 := dg_length (by omega) (by decide +kernel)
  have h32 : (dg 4294967296 4294967296).length ≤ 2 := dg_length (by omega) (by decide +kernel)
  have h17 := small_len (n := 17) (by omega)
  have h12 := small_len (n := 12) (by omega)
  have h18 := small_len (n := 18) (by omega)
  have h3 := small_len (n := 3) (by omega)
  have h2 := small_len (n := 2) (by omega)
  have h6 := small_len (n := 6) (by omega)
  have hdm := DivMod_fn hL.toLibN 17 5 (by omega) (by omega)
  have hmul := Mul_fn hL.P 4294967296 4294967296 (by omega)
  have hg := GCD_fn hL.toLibN 12 18 (by omega) (by omega)
  rw [gcd_ex] at hg
  have hb := Bits_fn hL.toLibN 18446744073709551616 (by omega)
  rw [bits_big] at hb
  have t1 := Text_fn hL 18446744073709551616 (by omega)
  rw [txt_big] at t1
  have t2 := Text_fn hL 3 (by omega)
  rw [txt_3] at t2
  have t3 := Text_fn hL 2 (by omega)
  rw [txt_2] at t3
  have t4 := Text_fn hL 6 (by omega)
  rw [txt_6] at t4
  refine W_waypointlaw01_awake hL.P rfl ?_
  simp (disch := omega) only [sd_t, dec_t, dec_f, i64_in, u32_in, u64_in, i64_quo, u32_quo, u64_quo, rem_in, Int.toNat_of_nonneg, go_sem, reduceCtorEq, ↓reduceIte, Nat.reduceEqDiff, Nat.reduceAdd, Nat.reduceSub, Nat.reduceMul, Nat.reduceLT, Nat.reduceLeDiff, Nat.reduceBEq, Nat.reduceBNe, Nat.reducePow, Nat.reduceDiv, Nat.reduceMod, Int.reduceAdd, Int.reduceSub, Int.reduceMul, Int.reduceLT, Int.reduceLE, Int.reduceEq, Int.reduceNe, Int.reduceNeg, Int.reduceToNat, Int.reducePow, Int.reduceDiv, Int.reduceMod, F_waypointlaw01_awake, R_waypointlaw01_awake]
  refine cp_of (Of_fn hL.P 4294967296 (by omega)) rfl ?_
  simp (disch := omega) only [sd_t, dec_t, dec_f, i64_in, u32_in, u64_in, i64_quo, u32_quo, u64_quo, rem_in, Int.toNat_of_nonneg, go_sem, reduceCtorEq, ↓reduceIte, Nat.reduceEqDiff, Nat.reduceAdd, Nat.reduceSub, Nat.reduceMul, Nat.reduceLT, Nat.reduceLeDiff, Nat.reduceBEq, Nat.reduceBNe, Nat.reducePow, Nat.reduceDiv, Nat.reduceMod, Int.reduceAdd, Int.reduceSub, Int.reduceMul, Int.reduceLT, Int.reduceLE, Int.reduceEq, Int.reduceNe, Int.reduceNeg, Int.reduceToNat, Int.reducePow, Int.reduceDiv, Int.reduceMod]
  refine cp_of (Of_fn hL.P 17 (by omega)) rfl ?_
  simp (disch := omega) only [sd_t, dec_t, dec_f, i64_in, u32_in, u64_in, i64_quo, u32_quo, u64_quo, rem_in, Int.toNat_of_nonneg, go_sem, reduceCtorEq, ↓reduceIte, Nat.reduceEqDiff, Nat.reduceAdd, Nat.reduceSub, Nat.reduceMul, Nat.reduceLT, Nat.reduceLeDiff, Nat.reduceBEq, Nat.reduceBNe, Nat.reducePow, Nat.reduceDiv, Nat.reduceMod, Int.reduceAdd, Int.reduceSub, Int.reduceMul, Int.reduceLT, Int.reduceLE, Int.reduceEq, Int.reduceNe, Int.reduceNeg, Int.reduceToNat, Int.reducePow, Int.reduceDiv, Int.reduceMod]
  refine cp_of (Of_fn hL.P 5 (by omega)) rfl ?_
  simp (disch := omega) only [sd_t, dec_t, dec_f, i64_in, u32_in, u64_in, i64_quo, u32_quo, u64_quo, rem_in, Int.toNat_of_nonneg, go_sem, reduceCtorEq, ↓reduceIte, Nat.reduceEqDiff, Nat.reduceAdd, Nat.reduceSub, Nat.reduceMul, Nat.reduceLT, Nat.reduceLeDiff, Nat.reduceBEq, Nat.reduceBNe, Nat.reducePow, Nat.reduceDiv, Nat.reduceMod, Int.reduceAdd, Int.reduceSub, Int.reduceMul, Int.reduceLT, Int.reduceLE, Int.reduceEq, Int.reduceNe, Int.reduceNeg, Int.reduceToNat, Int.reducePow, Int.reduceDiv, Int.reduceMod]
  refine cp_of (hdm) rfl ?_
  simp (disch := omega) only [sd_t, dec_t, dec_f, i64_in, u32_in, u64_in, i64_quo, u32_quo, u64_quo, rem_in, Int.toNat_of_nonneg, go_sem, reduceCtorEq, ↓reduceIte, Nat.reduceEqDiff, Nat.reduceAdd, Nat.reduceSub, Nat.reduceMul, Nat.reduceLT, Nat.reduceLeDiff, Nat.reduceBEq, Nat.reduceBNe, Nat.reducePow, Nat.reduceDiv, Nat.reduceMod, Int.reduceAdd, Int.reduceSub, Int.reduceMul, Int.reduceLT, Int.reduceLE, Int.reduceEq, Int.reduceNe, Int.reduceNeg, Int.reduceToNat, Int.reducePow, Int.reduceDiv, Int.reduceMod]
  refine cp_of (Parse_syn hL [48, 48, 55] (by simp) (fun h => absurd (h.2.2 48 [48, 55] rfl (by decide)) (by simp))) rfl ?_
  simp (disch := omega) only [sd_t, dec_t, dec_f, i64_in, u32_in, u64_in, i64_quo, u32_quo, u64_quo, rem_in, Int.toNat_of_nonneg, go_sem, reduceCtorEq, ↓reduceIte, Nat.reduceEqDiff, Nat.reduceAdd, Nat.reduceSub, Nat.reduceMul, Nat.reduceLT, Nat.reduceLeDiff, Nat.reduceBEq, Nat.reduceBNe, Nat.reducePow, Nat.reduceDiv, Nat.reduceMod, Int.reduceAdd, Int.reduceSub, Int.reduceMul, Int.reduceLT, Int.reduceLE, Int.reduceEq, Int.reduceNe, Int.reduceNeg, Int.reduceToNat, Int.reducePow, Int.reduceDiv, Int.reduceMod]
  refine cp_of (hmul) rfl ?_
  simp (disch := omega) only [sd_t, dec_t, dec_f, i64_in, u32_in, u64_in, i64_quo, u32_quo, u64_quo, rem_in, Int.toNat_of_nonneg, go_sem, reduceCtorEq, ↓reduceIte, Nat.reduceEqDiff, Nat.reduceAdd, Nat.reduceSub, Nat.reduceMul, Nat.reduceLT, Nat.reduceLeDiff, Nat.reduceBEq, Nat.reduceBNe, Nat.reducePow, Nat.reduceDiv, Nat.reduceMod, Int.reduceAdd, Int.reduceSub, Int.reduceMul, Int.reduceLT, Int.reduceLE, Int.reduceEq, Int.reduceNe, Int.reduceNeg, Int.reduceToNat, Int.reducePow, Int.reduceDiv, Int.reduceMod]
  refine cp_of (t1) rfl ?_
  simp (disch := omega) only [sd_t, dec_t, dec_f, i64_in, u32_in, u64_in, i64_quo, u32_quo, u64_quo, rem_in, Int.toNat_of_nonneg, go_sem, reduceCtorEq, ↓reduceIte, Nat.reduceEqDiff, Nat.reduceAdd, Nat.reduceSub, Nat.reduceMul, Nat.reduceLT, Nat.reduceLeDiff, Nat.reduceBEq, Nat.reduceBNe, Nat.reducePow, Nat.reduceDiv, Nat.reduceMod, Int.reduceAdd, Int.reduceSub, Int.reduceMul, Int.reduceLT, Int.reduceLE, Int.reduceEq, Int.reduceNe, Int.reduceNeg, Int.reduceToNat, Int.reducePow, Int.reduceDiv, Int.reduceMod]
  refine cp_of (hmul) rfl ?_
  simp (disch := omega) only [sd_t, dec_t, dec_f, i64_in, u32_in, u64_in, i64_quo, u32_quo, u64_quo, rem_in, Int.toNat_of_nonneg, go_sem, reduceCtorEq, ↓reduceIte, Nat.reduceEqDiff, Nat.reduceAdd, Nat.reduceSub, Nat.reduceMul, Nat.reduceLT, Nat.reduceLeDiff, Nat.reduceBEq, Nat.reduceBNe, Nat.reducePow, Nat.reduceDiv, Nat.reduceMod, Int.reduceAdd, Int.reduceSub, Int.reduceMul, Int.reduceLT, Int.reduceLE, Int.reduceEq, Int.reduceNe, Int.reduceNeg, Int.reduceToNat, Int.reducePow, Int.reduceDiv, Int.reduceMod]
  refine cp_of (hb) rfl ?_
  simp (disch := omega) only [sd_t, dec_t, dec_f, i64_in, u32_in, u64_in, i64_quo, u32_quo, u64_quo, rem_in, Int.toNat_of_nonneg, go_sem, reduceCtorEq, ↓reduceIte, Nat.reduceEqDiff, Nat.reduceAdd, Nat.reduceSub, Nat.reduceMul, Nat.reduceLT, Nat.reduceLeDiff, Nat.reduceBEq, Nat.reduceBNe, Nat.reducePow, Nat.reduceDiv, Nat.reduceMod, Int.reduceAdd, Int.reduceSub, Int.reduceMul, Int.reduceLT, Int.reduceLE, Int.reduceEq, Int.reduceNe, Int.reduceNeg, Int.reduceToNat, Int.reducePow, Int.reduceDiv, Int.reduceMod]
  refine cp_of (t2) rfl ?_
  simp (disch := omega) only [sd_t, dec_t, dec_f, i64_in, u32_in, u64_in, i64_quo, u32_quo, u64_quo, rem_in, Int.toNat_of_nonneg, go_sem, reduceCtorEq, ↓reduceIte, Nat.reduceEqDiff, Nat.reduceAdd, Nat.reduceSub, Nat.reduceMul, Nat.reduceLT, Nat.reduceLeDiff, Nat.reduceBEq, Nat.reduceBNe, Nat.reducePow, Nat.reduceDiv, Nat.reduceMod, Int.reduceAdd, Int.reduceSub, Int.reduceMul, Int.reduceLT, Int.reduceLE, Int.reduceEq, Int.reduceNe, Int.reduceNeg, Int.reduceToNat, Int.reducePow, Int.reduceDiv, Int.reduceMod]
  refine cp_of (t3) rfl ?_
  simp (disch := omega) only [sd_t, dec_t, dec_f, i64_in, u32_in, u64_in, i64_quo, u32_quo, u64_quo, rem_in, Int.toNat_of_nonneg, go_sem, reduceCtorEq, ↓reduceIte, Nat.reduceEqDiff, Nat.reduceAdd, Nat.reduceSub, Nat.reduceMul, Nat.reduceLT, Nat.reduceLeDiff, Nat.reduceBEq, Nat.reduceBNe, Nat.reducePow, Nat.reduceDiv, Nat.reduceMod, Int.reduceAdd, Int.reduceSub, Int.reduceMul, Int.reduceLT, Int.reduceLE, Int.reduceEq, Int.reduceNe, Int.reduceNeg, Int.reduceToNat, Int.reducePow, Int.reduceDiv, Int.reduceMod]
  refine cp_of (Of_fn hL.P 12 (by omega)) rfl ?_
  simp (disch := omega) only [sd_t, dec_t, dec_f, i64_in, u32_in, u64_in, i64_quo, u32_quo, u64_quo, rem_in, Int.toNat_of_nonneg, go_sem, reduceCtorEq, ↓reduceIte, Nat.reduceEqDiff, Nat.reduceAdd, Nat.reduceSub, Nat.reduceMul, Nat.reduceLT, Nat.reduceLeDiff, Nat.reduceBEq, Nat.reduceBNe, Nat.reducePow, Nat.reduceDiv, Nat.reduceMod, Int.reduceAdd, Int.reduceSub, Int.reduceMul, Int.reduceLT, Int.reduceLE, Int.reduceEq, Int.reduceNe, Int.reduceNeg, Int.reduceToNat, Int.reducePow, Int.reduceDiv, Int.reduceMod]
  refine cp_of (Of_fn hL.P 18 (by omega)) rfl ?_
  simp (disch := omega) only [sd_t, dec_t, dec_f, i64_in, u32_in, u64_in, i64_quo, u32_quo, u64_quo, rem_in, Int.toNat_of_nonneg, go_sem, reduceCtorEq, ↓reduceIte, Nat.reduceEqDiff, Nat.reduceAdd, Nat.reduceSub, Nat.reduceMul, Nat.reduceLT, Nat.reduceLeDiff, Nat.reduceBEq, Nat.reduceBNe, Nat.reducePow, Nat.reduceDiv, Nat.reduceMod, Int.reduceAdd, Int.reduceSub, Int.reduceMul, Int.reduceLT, Int.reduceLE, Int.reduceEq, Int.reduceNe, Int.reduceNeg, Int.reduceToNat, Int.reducePow, Int.reduceDiv, Int.reduceMod]
  refine cp_of (hg) rfl ?_
  simp (disch := omega) only [sd_t, dec_t, dec_f, i64_in, u32_in, u64_in, i64_quo, u32_quo, u64_quo, rem_in, Int.toNat_of_nonneg, go_sem, reduceCtorEq, ↓reduceIte, Nat.reduceEqDiff, Nat.reduceAdd, Nat.reduceSub, Nat.reduceMul, Nat.reduceLT, Nat.reduceLeDiff, Nat.reduceBEq, Nat.reduceBNe, Nat.reducePow, Nat.reduceDiv, Nat.reduceMod, Int.reduceAdd, Int.reduceSub, Int.reduceMul, Int.reduceLT, Int.reduceLE, Int.reduceEq, Int.reduceNe, Int.reduceNeg, Int.reduceToNat, Int.reducePow, Int.reduceDiv, Int.reduceMod]
  refine cp_of (t4) rfl ?_
  simp (disch := omega) only [sd_t, dec_t, dec_f, i64_in, u32_in, u64_in, i64_quo, u32_quo, u64_quo, rem_in, Int.toNat_of_nonneg, go_sem, reduceCtorEq, ↓reduceIte, Nat.reduceEqDiff, Nat.reduceAdd, Nat.reduceSub, Nat.reduceMul, Nat.reduceLT, Nat.reduceLeDiff, Nat.reduceBEq, Nat.reduceBNe, Nat.reducePow, Nat.reduceDiv, Nat.reduceMod, Int.reduceAdd, Int.reduceSub, Int.reduceMul, Int.reduceLT, Int.reduceLE, Int.reduceEq, Int.reduceNe, Int.reduceNeg, Int.reduceToNat, Int.reducePow, Int.reduceDiv, Int.reduceMod]
end Go.Proofs.YtmjkhbjfacfmcaaDoor.VX
end
section
namespace Go.Proofs
open Go.Shelf
open Go.RowKit in
open Go.RowKit in
def Tryd.lays160_ren : Go.Shelf.Ren := ⟨fun | 160 => 28 | 232 => 50 | 231 => 49 | 227 => 51 | 234 => 53 | 233 => 52 | 236 => 55 | 235 => 54 | 228 => 65 | 271 => 68 | 151 => 67 | 197 => 66 | 120 => 82 | 152 => 81 | 260 => 80 | 137 => 91 | 119 => 92 | 224 => 93 | 225 => 94 | 217 => 102 | 266 => 105 | n => n, fun | 9 => 9 | 4 => 4 | 3 => 3 | 5 => 5 | 117 => 86 | 116 => 85 | 0 => 0 | 124 => 89 | 21 => 21 | 105 => 98 | 46 => 73 | 119 => 126 | 139 => 129 | 138 => 128 | n => n, fun | 3 => 3 | 4 => 4 | n => n⟩
theorem Tryd.lays160 : Go.Proofs.Lays.n160 Tryd.prog Tryd.lays160_ren := {
  mixed := by kernel_rfl
  f119 := Tryd.func92.trans (congrArg some (by kernel_rfl))
  f120 := Tryd.func82.trans (congrArg some (by kernel_rfl))
  f137 := Tryd.func91.trans (congrArg some (by kernel_rfl))
  f151 := Tryd.func67.trans (congrArg some (by kernel_rfl))
  f152 := Tryd.func81.trans (congrArg some (by kernel_rfl))
  f160 := Tryd.func28.trans (congrArg some (by kernel_rfl))
  f197 := Tryd.func66.trans (congrArg some (by kernel_rfl))
  f217 := Tryd.func102.trans (congrArg some (by kernel_rfl))
  f224 := Tryd.func93.trans (congrArg some (by kernel_rfl))
  f225 := Tryd.func94.trans (congrArg some (by kernel_rfl))
  f227 := Tryd.func51.trans (congrArg some (by kernel_rfl))
  f228 := Tryd.func65.trans (congrArg some (by kernel_rfl))
  f231 := Tryd.func49.trans (congrArg some (by kernel_rfl))
  f232 := Tryd.func50.trans (congrArg some (by kernel_rfl))
  f233 := Tryd.func52.trans (congrArg some (by kernel_rfl))
  f234 := Tryd.func53.trans (congrArg some (by kernel_rfl))
  f235 := Tryd.func54.trans (congrArg some (by kernel_rfl))
  f236 := Tryd.func55.trans (congrArg some (by kernel_rfl))
  f260 := Tryd.func80.trans (congrArg some (by kernel_rfl))
  f266 := Tryd.func105.trans (congrArg some (by kernel_rfl))
  f271 := Tryd.func68.trans (congrArg some (by kernel_rfl))
  t0 := Tryd.underlying0
  a0 := Tryd.isAgg0
  z0 := Tryd.sizeOf0
  v0 := Tryd.zeroValue0
  t3 := Tryd.underlying3
  a3 := Tryd.isAgg3
  z3 := Tryd.sizeOf3
  v3 := Tryd.zeroValue3
  t4 := Tryd.underlying4
  a4 := Tryd.isAgg4
  z4 := Tryd.sizeOf4
  v4 := Tryd.zeroValue4
  t5 := Tryd.underlying5
  a5 := Tryd.isAgg5
  z5 := Tryd.sizeOf5
  v5 := Tryd.zeroValue5
  t9 := Tryd.underlying9
  a9 := Tryd.isAgg9
  z9 := Tryd.sizeOf9
  v9 := Tryd.zeroValue9
  t21 := Tryd.underlying21
  a21 := Tryd.isAgg21
  z21 := Tryd.sizeOf21
  v21 := Tryd.zeroValue21
  t46 := Tryd.underlying73
  a46 := Tryd.isAgg73
  z46 := Tryd.sizeOf73
  v46 := Tryd.zeroValue73
  t105 := Tryd.underlying98
  a105 := Tryd.isAgg98
  z105 := Tryd.sizeOf98
  v105 := Tryd.zeroValue98
  t116 := Tryd.underlying85
  a116 := Tryd.isAgg85
  z116 := Tryd.sizeOf85
  t117 := Tryd.underlying86
  a117 := Tryd.isAgg86
  z117 := Tryd.sizeOf86
  v117 := Tryd.zeroValue86
  t119 := Tryd.underlying126
  a119 := Tryd.isAgg126
  z119 := Tryd.sizeOf126
  t124 := Tryd.underlying89
  a124 := Tryd.isAgg89
  z124 := Tryd.sizeOf89
  v124 := Tryd.zeroValue89
  t138 := Tryd.underlying128
  a138 := Tryd.isAgg128
  z138 := Tryd.sizeOf128
  v138 := Tryd.zeroValue128
  t139 := Tryd.underlying129
  a139 := Tryd.isAgg129
  z139 := Tryd.sizeOf129
  v139 := Tryd.zeroValue129
  g3 := by kernel_rfl
  g4 := by kernel_rfl }
def Tryd.lays128_ren : Go.Shelf.Ren := ⟨fun | 128 => 45 | n => n, fun | 51 => 62 | 3 => 3 | 4 => 4 | 46 => 73 | 5 => 5 | 9 => 9 | n => n, fun | n => n⟩
theorem Tryd.lays128 : Go.Proofs.Lays.n128 Tryd.prog Tryd.lays128_ren := {
  mixed := by kernel_rfl
  f128 := Tryd.func45.trans (congrArg some (by kernel_rfl))
  t3 := Tryd.underlying3
  a3 := Tryd.isAgg3
  z3 := Tryd.sizeOf3
  v3 := Tryd.zeroValue3
  t4 := Tryd.underlying4
  a4 := Tryd.isAgg4
  z4 := Tryd.sizeOf4
  v4 := Tryd.zeroValue4
  t5 := Tryd.underlying5
  a5 := Tryd.isAgg5
  z5 := Tryd.sizeOf5
  v5 := Tryd.zeroValue5
  t9 := Tryd.underlying9
  a9 := Tryd.isAgg9
  z9 := Tryd.sizeOf9
  v9 := Tryd.zeroValue9
  t46 := Tryd.underlying73
  a46 := Tryd.isAgg73
  z46 := Tryd.sizeOf73
  v46 := Tryd.zeroValue73
  t51 := Tryd.underlying62
  a51 := Tryd.isAgg62
  z51 := Tryd.sizeOf62
  v51 := Tryd.zeroValue62 }
theorem Tryd.bits_Len32 (x : Int) (w : World) (h0 : 0 ≤ x) (h1 : x ≤ 4294967295) :
    Calls Tryd.prog 45 #[.int .u32 x] w fun e w' => e = .returned (.int .i64 (Lib.bitLen x.toNat)) ∧ w' = w := Any.bits_Len32 Tryd.lays128 x w h0 h1
def Tryd.lays133_ren : Go.Shelf.Ren := ⟨fun | 133 => 38 | 128 => 45 | n => n, fun | 51 => 62 | 3 => 3 | 4 => 4 | 46 => 73 | 5 => 5 | 9 => 9 | n => n, fun | n => n⟩
theorem Tryd.lays133 : Go.Proofs.Lays.n133 Tryd.prog Tryd.lays133_ren := {
  mixed := by kernel_rfl
  f128 := Tryd.func45.trans (congrArg some (by kernel_rfl))
  f133 := Tryd.func38.trans (congrArg some (by kernel_rfl))
  t3 := Tryd.underlying3
  a3 := Tryd.isAgg3
  z3 := Tryd.sizeOf3
  v3 := Tryd.zeroValue3
  t4 := Tryd.underlying4
  a4 := Tryd.isAgg4
  z4 := Tryd.sizeOf4
  v4 := Tryd.zeroValue4
  t5 := Tryd.underlying5
  a5 := Tryd.isAgg5
  z5 := Tryd.sizeOf5
  v5 := Tryd.zeroValue5
  t9 := Tryd.underlying9
  a9 := Tryd.isAgg9
  z9 := Tryd.sizeOf9
  v9 := Tryd.zeroValue9
  t46 := Tryd.underlying73
  a46 := Tryd.isAgg73
  z46 := Tryd.sizeOf73
  v46 := Tryd.zeroValue73
  t51 := Tryd.underlying62
  a51 := Tryd.isAgg62
  z51 := Tryd.sizeOf62
  v51 := Tryd.zeroValue62 }
theorem Tryd.bits_LeadingZeros32 (x : Int) (w : World) (h0 : 0 ≤ x) (h1 : x ≤ 4294967295) :
    Calls Tryd.prog 38 #[.int .u32 x] w fun e w' => e = .returned (.int .i64 (32 - (Lib.bitLen x.toNat : Int))) ∧ w' = w := Any.bits_LeadingZeros32 Tryd.lays133 x w h0 h1
def Tryd.laysM171_ren : Go.Shelf.Ren := ⟨fun | 171 => 32 | 243 => 59 | 246 => 74 | 283 => 86 | 284 => 87 | 285 => 88 | 286 => 89 | 129 => 98 | 317 => 97 | 318 => 99 | 319 => 100 | 320 => 101 | 337 => 103 | 338 => 104 | n => n, fun | 3 => 3 | 9 => 9 | 2 => 2 | 4 => 4 | 171 => 120 | 0 => 0 | 53 => 52 | 37 => 42 | 5 => 5 | 173 => 123 | 212 => 140 | 51 => 62 | 20 => 20 | 213 => 141 | 46 => 73 | 232 => 144 | 233 => 145 | n => n, fun | 17 => 5 | 18 => 7 | 19 => 8 | n => n⟩
theorem Tryd.laysM171 : Go.Proofs.LaysM.n171 Tryd.prog Tryd.laysM171_ren := {
  mixed := by kernel_rfl
  f129 := Tryd.func98.trans (congrArg some (by kernel_rfl))
  f171 := Tryd.func32.trans (congrArg some (by kernel_rfl))
  f243 := Tryd.func59.trans (congrArg some (by kernel_rfl))
  f246 := Tryd.func74.trans (congrArg some (by kernel_rfl))
  f283 := Tryd.func86.trans (congrArg some (by kernel_rfl))
  f284 := Tryd.func87.trans (congrArg some (by kernel_rfl))
  f285 := Tryd.func88.trans (congrArg some (by kernel_rfl))
  f286 := Tryd.func89.trans (congrArg some (by kernel_rfl))
  f317 := Tryd.func97.trans (congrArg some (by kernel_rfl))
  f318 := Tryd.func99.trans (congrArg some (by kernel_rfl))
  f319 := Tryd.func100.trans (congrArg some (by kernel_rfl))
  f320 := Tryd.func101.trans (congrArg some (by kernel_rfl))
  f337 := Tryd.func103.trans (congrArg some (by kernel_rfl))
  f338 := Tryd.func104.trans (congrArg some (by kernel_rfl))
  t0 := Tryd.underlying0
  a0 := Tryd.isAgg0
  z0 := Tryd.sizeOf0
  v0 := Tryd.zeroValue0
  t2 := Tryd.underlying2
  a2 := Tryd.isAgg2
  z2 := Tryd.sizeOf2
  v2 := Tryd.zeroValue2
  t3 := Tryd.underlying3
  a3 := Tryd.isAgg3
  z3 := Tryd.sizeOf3
  v3 := Tryd.zeroValue3
  t4 := Tryd.underlying4
  a4 := Tryd.isAgg4
  z4 := Tryd.sizeOf4
  v4 := Tryd.zeroValue4
  t5 := Tryd.underlying5
  a5 := Tryd.isAgg5
  z5 := Tryd.sizeOf5
  v5 := Tryd.zeroValue5
  t9 := Tryd.underlying9
  a9 := Tryd.isAgg9
  z9 := Tryd.sizeOf9
  v9 := Tryd.zeroValue9
  t20 := Tryd.underlying20
  a20 := Tryd.isAgg20
  z20 := Tryd.sizeOf20
  v20 := Tryd.zeroValue20
  t37 := Tryd.underlying42
  a37 := Tryd.isAgg42
  z37 := Tryd.sizeOf42
  v37 := Tryd.zeroValue42
  t46 := Tryd.underlying73
  a46 := Tryd.isAgg73
  z46 := Tryd.sizeOf73
  v46 := Tryd.zeroValue73
  t51 := Tryd.underlying62
  a51 := Tryd.isAgg62
  z51 := Tryd.sizeOf62
  v51 := Tryd.zeroValue62
  t53 := Tryd.underlying52
  a53 := Tryd.isAgg52
  z53 := Tryd.sizeOf52
  v53 := Tryd.zeroValue52
  t171 := Tryd.underlying120
  a171 := Tryd.isAgg120
  z171 := Tryd.sizeOf120
  v171 := Tryd.zeroValue120
  t173 := Tryd.underlying123
  a173 := Tryd.isAgg123
  z173 := Tryd.sizeOf123
  v173 := Tryd.zeroValue123
  t212 := Tryd.underlying140
  a212 := Tryd.isAgg140
  z212 := Tryd.sizeOf140
  v212 := Tryd.zeroValue140
  t213 := Tryd.underlying141
  a213 := Tryd.isAgg141
  z213 := Tryd.sizeOf141
  t232 := Tryd.underlying144
  a232 := Tryd.isAgg144
  z232 := Tryd.sizeOf144
  v232 := Tryd.zeroValue144
  t233 := Tryd.underlying145
  a233 := Tryd.isAgg145
  z233 := Tryd.sizeOf145
  v233 := Tryd.zeroValue145
  g17 := by kernel_rfl
  g18 := by kernel_rfl
  g19 := by kernel_rfl
  i0 := by kernel_rfl
  i2 := by kernel_rfl
  i3 := by kernel_rfl
  i4 := by kernel_rfl
  i5 := by kernel_rfl
  i9 := by kernel_rfl
  i20 := by kernel_rfl
  i37 := by kernel_rfl
  i46 := by kernel_rfl
  i51 := by kernel_rfl
  i53 := by kernel_rfl
  i171 := by kernel_rfl
  i173 := by kernel_rfl
  i212 := by kernel_rfl
  i232 := by kernel_rfl
  i233 := by kernel_rfl
  m17 := by kernel_rfl
  m18 := by kernel_rfl
  m19 := by kernel_rfl }
open Go.RowKit Go.Sort Go.Lib in
theorem Tryd.strconv_Itoa (n : Int) (h0 : -9223372036854775808 ≤ n) (h1 : n ≤ 9223372036854775807) (w : World) (htab : Lib.TabIs Tryd.prog w "internal/strconv.uint64pow10" .u64 Lib.pow10Tab) :
    Calls Tryd.prog 32 #[.int .i64 n] w fun e w' => e = .returned (.string ⟨(Lib.itoa n).toArray⟩) ∧ ∃ k os, w' = grow (w.drewN k) os := Any.strconv_Itoa Tryd.laysM171 n h0 h1 w htab
def Tryd.laysC172_ren : Go.Shelf.Ren := ⟨fun | 172 => 29 | 244 => 56 | 245 => 57 | 247 => 69 | 279 => 70 | 280 => 71 | 281 => 72 | 282 => 73 | 287 => 83 | 316 => 84 | 171 => 32 | 205 => 85 | 321 => 95 | 322 => 96 | 243 => 59 | 246 => 74 | 283 => 86 | 284 => 87 | 285 => 88 | 286 => 89 | 129 => 98 | 317 => 97 | 318 => 99 | 319 => 100 | 320 => 101 | 337 => 103 | 338 => 104 | n => n, fun | 9 => 9 | 3 => 3 | 75 => 58 | 76 => 59 | 4 => 4 | 5 => 5 | 167 => 101 | 37 => 42 | 0 => 0 | 85 => 102 | 2 => 2 | 168 => 104 | 53 => 52 | 175 => 114 | 46 => 73 | 210 => 118 | 127 => 96 | 145 => 138 | 143 => 136 | 21 => 21 | 171 => 120 | 173 => 123 | 212 => 140 | 51 => 62 | 20 => 20 | 213 => 141 | 232 => 144 | 233 => 145 | 80 => 71 | n => n, fun | 15 => 1 | 16 => 2 | 17 => 5 | 18 => 7 | 19 => 8 | n => n⟩
theorem Tryd.laysC172 : Go.Proofs.LaysC.n172 Tryd.prog Tryd.laysC172_ren := {
  mixed := by kernel_rfl
  f129 := Tryd.func98.trans (congrArg some (by kernel_rfl))
  f171 := Tryd.func32.trans (congrArg some (by kernel_rfl))
  f172 := Tryd.func29.trans (congrArg some (by kernel_rfl))
  f205 := Tryd.func85.trans (congrArg some (by kernel_rfl))
  f243 := Tryd.func59.trans (congrArg some (by kernel_rfl))
  f244 := Tryd.func56.trans (congrArg some (by kernel_rfl))
  f245 := Tryd.func57.trans (congrArg some (by kernel_rfl))
  f246 := Tryd.func74.trans (congrArg some (by kernel_rfl))
  f247 := Tryd.func69.trans (congrArg some (by kernel_rfl))
  f279 := Tryd.func70.trans (congrArg some (by kernel_rfl))
  f280 := Tryd.func71.trans (congrArg some (by kernel_rfl))
  f281 := Tryd.func72.trans (congrArg some (by kernel_rfl))
  f282 := Tryd.func73.trans (congrArg some (by kernel_rfl))
  f283 := Tryd.func86.trans (congrArg some (by kernel_rfl))
  f284 := Tryd.func87.trans (congrArg some (by kernel_rfl))
  f285 := Tryd.func88.trans (congrArg some (by kernel_rfl))
  f286 := Tryd.func89.trans (congrArg some (by kernel_rfl))
  f287 := Tryd.func83.trans (congrArg some (by kernel_rfl))
  f316 := Tryd.func84.trans (congrArg some (by kernel_rfl))
  f317 := Tryd.func97.trans (congrArg some (by kernel_rfl))
  f318 := Tryd.func99.trans (congrArg some (by kernel_rfl))
  f319 := Tryd.func100.trans (congrArg some (by kernel_rfl))
  f320 := Tryd.func101.trans (congrArg some (by kernel_rfl))
  f321 := Tryd.func95.trans (congrArg some (by kernel_rfl))
  f322 := Tryd.func96.trans (congrArg some (by kernel_rfl))
  f337 := Tryd.func103.trans (congrArg some (by kernel_rfl))
  f338 := Tryd.func104.trans (congrArg some (by kernel_rfl))
  t0 := Tryd.underlying0
  a0 := Tryd.isAgg0
  z0 := Tryd.sizeOf0
  v0 := Tryd.zeroValue0
  t2 := Tryd.underlying2
  a2 := Tryd.isAgg2
  z2 := Tryd.sizeOf2
  v2 := Tryd.zeroValue2
  t3 := Tryd.underlying3
  a3 := Tryd.isAgg3
  z3 := Tryd.sizeOf3
  v3 := Tryd.zeroValue3
  t4 := Tryd.underlying4
  a4 := Tryd.isAgg4
  z4 := Tryd.sizeOf4
  v4 := Tryd.zeroValue4
  t5 := Tryd.underlying5
  a5 := Tryd.isAgg5
  z5 := Tryd.sizeOf5
  v5 := Tryd.zeroValue5
  t9 := Tryd.underlying9
  a9 := Tryd.isAgg9
  z9 := Tryd.sizeOf9
  v9 := Tryd.zeroValue9
  t20 := Tryd.underlying20
  a20 := Tryd.isAgg20
  z20 := Tryd.sizeOf20
  v20 := Tryd.zeroValue20
  t21 := Tryd.underlying21
  a21 := Tryd.isAgg21
  z21 := Tryd.sizeOf21
  v21 := Tryd.zeroValue21
  t37 := Tryd.underlying42
  a37 := Tryd.isAgg42
  z37 := Tryd.sizeOf42
  v37 := Tryd.zeroValue42
  t46 := Tryd.underlying73
  a46 := Tryd.isAgg73
  z46 := Tryd.sizeOf73
  v46 := Tryd.zeroValue73
  t51 := Tryd.underlying62
  a51 := Tryd.isAgg62
  z51 := Tryd.sizeOf62
  v51 := Tryd.zeroValue62
  t53 := Tryd.underlying52
  a53 := Tryd.isAgg52
  z53 := Tryd.sizeOf52
  v53 := Tryd.zeroValue52
  t75 := Tryd.underlying58
  a75 := Tryd.isAgg58
  z75 := Tryd.sizeOf58
  v75 := Tryd.zeroValue58
  t76 := Tryd.underlying59
  a76 := Tryd.isAgg59
  z76 := Tryd.sizeOf59
  v76 := Tryd.zeroValue59
  t85 := Tryd.underlying102
  a85 := Tryd.isAgg102
  z85 := Tryd.sizeOf102
  v85 := Tryd.zeroValue102
  t127 := Tryd.underlying96
  a127 := Tryd.isAgg96
  z127 := Tryd.sizeOf96
  v127 := Tryd.zeroValue96
  t143 := Tryd.underlying136
  a143 := Tryd.isAgg136
  z143 := Tryd.sizeOf136
  v143 := Tryd.zeroValue136
  t145 := Tryd.underlying138
  a145 := Tryd.isAgg138
  z145 := Tryd.sizeOf138
  v145 := Tryd.zeroValue138
  t167 := Tryd.underlying101
  a167 := Tryd.isAgg101
  z167 := Tryd.sizeOf101
  v167 := Tryd.zeroValue101
  t168 := Tryd.underlying104
  a168 := Tryd.isAgg104
  z168 := Tryd.sizeOf104
  v168 := Tryd.zeroValue104
  t171 := Tryd.underlying120
  a171 := Tryd.isAgg120
  z171 := Tryd.sizeOf120
  v171 := Tryd.zeroValue120
  t173 := Tryd.underlying123
  a173 := Tryd.isAgg123
  z173 := Tryd.sizeOf123
  v173 := Tryd.zeroValue123
  t175 := Tryd.underlying114
  a175 := Tryd.isAgg114
  z175 := Tryd.sizeOf114
  v175 := Tryd.zeroValue114
  t210 := Tryd.underlying118
  a210 := Tryd.isAgg118
  z210 := Tryd.sizeOf118
  v210 := Tryd.zeroValue118
  t212 := Tryd.underlying140
  a212 := Tryd.isAgg140
  z212 := Tryd.sizeOf140
  v212 := Tryd.zeroValue140
  t213 := Tryd.underlying141
  a213 := Tryd.isAgg141
  z213 := Tryd.sizeOf141
  t232 := Tryd.underlying144
  a232 := Tryd.isAgg144
  z232 := Tryd.sizeOf144
  v232 := Tryd.zeroValue144
  t233 := Tryd.underlying145
  a233 := Tryd.isAgg145
  z233 := Tryd.sizeOf145
  v233 := Tryd.zeroValue145
  g15 := by kernel_rfl
  g16 := by kernel_rfl
  g17 := by kernel_rfl
  g18 := by kernel_rfl
  g19 := by kernel_rfl
  t80 := Tryd.underlying71
  a80 := Tryd.isAgg71
  z80 := Tryd.sizeOf71
  v80 := Tryd.zeroValue71
  i0 := by kernel_rfl
  i2 := by kernel_rfl
  i3 := by kernel_rfl
  i4 := by kernel_rfl
  i5 := by kernel_rfl
  i9 := by kernel_rfl
  i20 := by kernel_rfl
  i21 := by kernel_rfl
  i37 := by kernel_rfl
  i46 := by kernel_rfl
  i51 := by kernel_rfl
  i53 := by kernel_rfl
  i75 := by kernel_rfl
  i76 := by kernel_rfl
  i80 := by kernel_rfl
  i85 := by kernel_rfl
  i127 := by kernel_rfl
  i143 := by kernel_rfl
  i145 := by kernel_rfl
  i167 := by kernel_rfl
  i168 := by kernel_rfl
  i171 := by kernel_rfl
  i173 := by kernel_rfl
  i175 := by kernel_rfl
  i210 := by kernel_rfl
  i212 := by kernel_rfl
  i232 := by kernel_rfl
  i233 := by kernel_rfl
  m15 := by kernel_rfl
  m16 := by kernel_rfl
  m17 := by kernel_rfl
  m18 := by kernel_rfl
  m19 := by kernel_rfl
  c0 := by kernel_rfl
  c2 := by kernel_rfl
  c3 := by kernel_rfl
  c4 := by kernel_rfl
  c5 := by kernel_rfl
  c9 := by kernel_rfl
  c20 := by kernel_rfl
  c21 := by kernel_rfl
  c37 := by kernel_rfl
  c46 := by kernel_rfl
  c51 := by kernel_rfl
  c53 := by kernel_rfl
  c75 := by kernel_rfl
  c76 := by kernel_rfl
  c80 := by kernel_rfl
  c85 := by kernel_rfl
  c127 := by kernel_rfl
  c143 := by kernel_rfl
  c145 := by kernel_rfl
  c167 := by kernel_rfl
  c168 := by kernel_rfl
  c171 := by kernel_rfl
  c173 := by kernel_rfl
  c175 := by kernel_rfl
  c210 := by kernel_rfl
  c212 := by kernel_rfl
  c213 := by kernel_rfl
  c232 := by kernel_rfl
  c233 := by kernel_rfl }
open Go.RowKit in
theorem Tryd.strconv_Atoi_ok (s : ByteArray) (hmax : s.size ≤ 9223372036854775806) (v : Int) (h : Lib.atoiAll s.data.toList = .ok v) (w : World) :
    Calls Tryd.prog 29 #[.string s] w fun e w' => e = .returned (.tuple #[.int .i64 v, .nilIface]) ∧ (w' = w ∨ ∃ t, w' = Lib.bytesWorld w 5 t) := Any.strconv_Atoi_ok Tryd.laysC172 s hmax v h w
def Tryd.lays105_ren : Go.Shelf.Ren := ⟨fun | 105 => 33 | 212 => 60 | 99 => 61 | 165 => 62 | 166 => 34 | 170 => 63 | 169 => 35 | 263 => 75 | 264 => 76 | 206 => 77 | 240 => 64 | 241 => 78 | 276 => 79 | 277 => 90 | n => n, fun | 9 => 9 | 3 => 3 | 4 => 4 | 20 => 20 | 0 => 0 | 46 => 73 | 109 => 91 | 5 => 5 | 72 => 70 | 76 => 59 | 51 => 62 | 146 => 78 | 53 => 52 | 148 => 109 | 70 => 68 | 37 => 42 | 75 => 58 | 127 => 96 | 164 => 111 | 80 => 71 | n => n, fun | n => n⟩
theorem Tryd.lays105 : Go.Proofs.Lays.n105 Tryd.prog Tryd.lays105_ren := {
  mixed := by kernel_rfl
  f99 := Tryd.func61.trans (congrArg some (by kernel_rfl))
  f105 := Tryd.func33.trans (congrArg some (by kernel_rfl))
  f165 := Tryd.func62.trans (congrArg some (by kernel_rfl))
  f166 := Tryd.func34.trans (congrArg some (by kernel_rfl))
  f169 := Tryd.func35.trans (congrArg some (by kernel_rfl))
  f170 := Tryd.func63.trans (congrArg some (by kernel_rfl))
  f206 := Tryd.func77.trans (congrArg some (by kernel_rfl))
  f212 := Tryd.func60.trans (congrArg some (by kernel_rfl))
  f240 := Tryd.func64.trans (congrArg some (by kernel_rfl))
  f241 := Tryd.func78.trans (congrArg some (by kernel_rfl))
  f263 := Tryd.func75.trans (congrArg some (by kernel_rfl))
  f264 := Tryd.func76.trans (congrArg some (by kernel_rfl))
  f276 := Tryd.func79.trans (congrArg some (by kernel_rfl))
  f277 := Tryd.func90.trans (congrArg some (by kernel_rfl))
  t0 := Tryd.underlying0
  a0 := Tryd.isAgg0
  z0 := Tryd.sizeOf0
  v0 := Tryd.zeroValue0
  t3 := Tryd.underlying3
  a3 := Tryd.isAgg3
  z3 := Tryd.sizeOf3
  v3 := Tryd.zeroValue3
  t4 := Tryd.underlying4
  a4 := Tryd.isAgg4
  z4 := Tryd.sizeOf4
  v4 := Tryd.zeroValue4
  t5 := Tryd.underlying5
  a5 := Tryd.isAgg5
  z5 := Tryd.sizeOf5
  v5 := Tryd.zeroValue5
  t9 := Tryd.underlying9
  a9 := Tryd.isAgg9
  z9 := Tryd.sizeOf9
  v9 := Tryd.zeroValue9
  t20 := Tryd.underlying20
  a20 := Tryd.isAgg20
  z20 := Tryd.sizeOf20
  v20 := Tryd.zeroValue20
  t37 := Tryd.underlying42
  a37 := Tryd.isAgg42
  z37 := Tryd.sizeOf42
  v37 := Tryd.zeroValue42
  t46 := Tryd.underlying73
  a46 := Tryd.isAgg73
  z46 := Tryd.sizeOf73
  v46 := Tryd.zeroValue73
  t51 := Tryd.underlying62
  a51 := Tryd.isAgg62
  z51 := Tryd.sizeOf62
  v51 := Tryd.zeroValue62
  t53 := Tryd.underlying52
  a53 := Tryd.isAgg52
  z53 := Tryd.sizeOf52
  v53 := Tryd.zeroValue52
  t70 := Tryd.underlying68
  a70 := Tryd.isAgg68
  z70 := Tryd.sizeOf68
  v70 := Tryd.zeroValue68
  t72 := Tryd.underlying70
  a72 := Tryd.isAgg70
  z72 := Tryd.sizeOf70
  v72 := Tryd.zeroValue70
  t75 := Tryd.underlying58
  a75 := Tryd.isAgg58
  z75 := Tryd.sizeOf58
  v75 := Tryd.zeroValue58
  t76 := Tryd.underlying59
  a76 := Tryd.isAgg59
  z76 := Tryd.sizeOf59
  v76 := Tryd.zeroValue59
  t109 := Tryd.underlying91
  a109 := Tryd.isAgg91
  z109 := Tryd.sizeOf91
  v109 := Tryd.zeroValue91
  t127 := Tryd.underlying96
  a127 := Tryd.isAgg96
  z127 := Tryd.sizeOf96
  v127 := Tryd.zeroValue96
  t146 := Tryd.underlying78
  a146 := Tryd.isAgg78
  z146 := Tryd.sizeOf78
  v146 := Tryd.zeroValue78
  t148 := Tryd.underlying109
  a148 := Tryd.isAgg109
  z148 := Tryd.sizeOf109
  v148 := Tryd.zeroValue109
  t164 := Tryd.underlying111
  a164 := Tryd.isAgg111
  z164 := Tryd.sizeOf111
  v164 := Tryd.zeroValue111 }
theorem Tryd.Builder_Extra_105 : Builder.Extra Tryd.prog Tryd.lays105_ren := {
  sizeBuilder := by kernel_rfl
  liesBuilder := by kernel_rfl
  t5 := Tryd.underlying5
  a5 := Tryd.isAgg5
  z5 := Tryd.sizeOf5
  v5 := Tryd.zeroValue5
  infoByte := by kernel_rfl
  cellsByte := by kernel_rfl
  sizeByte := by kernel_rfl
  neB5 := by decide }
open Go.RowKit Go.Lib in
theorem Tryd.strings_Repeat (s : ByteArray) (c : Nat) (w : World) (hc : c ≤ 9223372036854775807) (hlen : s.size * c ≤ 140737488355328) :
    Calls Tryd.prog 33 #[.string s, .int .i64 c] w fun e w' => e = .returned (.string ⟨(Lib.repeatL s.data.toList c).toArray⟩) ∧ Below w.heap.size w w' := Any.strings_Repeat Tryd.lays105 Tryd.Builder_Extra_105 s c w hc hlen
open Go.RowKit in
open Go.RowKit in
theorem Tryd.strings_Trim_digits (s : ByteArray) (w : World) (hs : s.size ≤ 9223372036854775807) :
    Calls Tryd.prog 28 #[.string s, .string ⟨#[48, 49, 50, 51, 52, 53, 54, 55, 56, 57]⟩] w fun e w' => e = .returned (.string ⟨(Lib.trimS s.data.toList [48, 49, 50, 51, 52, 53, 54, 55, 56, 57]).toArray⟩) ∧ Below w.heap.size w w' :=
  Any.strings_Trim_laid Tryd.lays160 (by kernel_rfl) s ⟨#[48, 49, 50, 51, 52, 53, 54, 55, 56, 57]⟩ w hs (by decide) (ascii_of_all (by decide))
end Go.Proofs
end
section
namespace Go.Proofs.YtmjkhbjfacfmcaaDoor
open Go.RowKit Go.Proofs.YtmjkhbjfacfmcaaDoorW.PrintWords
set_option linter.unusedVariables false
set_option linter.unusedSimpArgs false
@[simp] theorem ne_nil_isEmpty (l : List UInt8) : (l != []) = !l.isEmpty := by cases l <;> rfl
end Go.Proofs.YtmjkhbjfacfmcaaDoor
end
section
namespace Go.Proofs.YtmjkhbjfacfmcaaDoor
open Go.RowKit Go.Proofs.YtmjkhbjfacfmcaaDoorW.PrintWords
set_option linter.unusedVariables false
structure GLw (w : World) : Prop where
  tab : Lib.TabIs Tryd.prog w "internal/strconv.uint64pow10" .u64 Lib.pow10Tab
theorem GLw.mono {w0 w : World} (h : GLw w0) (hb : Below w0.heap.size w0 w) : GLw w := ⟨Lib.tabBelow_of_tabIs h.tab _ hb⟩
theorem GLw.drewN {w : World} {n : Nat} (h : GLw w) : GLw (w.drewN n) := h.mono (pw_below_drewN (Below.refl _ _) n)
theorem GLw.drew {w : World} (h : GLw w) : GLw w.drew := h.mono (below_drew (Below.refl _ _))
def revcat (l : List ByteArray) : List UInt8 := (l.reverse.map (fun s => s.data.toList)).flatten
def joinrev.f (l : List ByteArray) : Option ByteArray := if (revcat l).length ≤ 140737488355328 then some ⟨(revcat l).toArray⟩ else none
def strconv_Itoa.f (n : Int) : Option ByteArray := if -9223372036854775808 ≤ n ∧ n ≤ 9223372036854775807 then some ⟨(Lib.itoa n).toArray⟩ else none
theorem strconv_Itoa.calls (a0 : Int) (r : ByteArray) (w : World) (hGl : GLw w) (h : strconv_Itoa.f a0 = some r) :
    Calls Tryd.prog 32 #[.int .i64 a0] w fun e w' => e = .returned (.string r) ∧ Below w.heap.size w w' := by
  unfold strconv_Itoa.f at h
  split at h
  · rename_i hb
    cases h
    refine (Tryd.strconv_Itoa a0 hb.1 hb.2 w hGl.tab).mono ?_
    rintro e w' ⟨rfl, k, os, rfl⟩
    exact ⟨rfl, Lib.below_grow _ _ (Nat.le_refl _) k os⟩
  · cases h
def strconv_Atoi.f (s : ByteArray) : Option (Int × Option Int) := if s.size ≤ 9223372036854775806 then (match Lib.atoiAll s.data.toList with | .ok v => some (v, none) | _ => none) else none
theorem strconv_Atoi.calls (a0 : ByteArray) (r1 : Int) (r2 : Option Int) (w : World) (h : strconv_Atoi.f a0 = some (r1, r2)) :
    Calls Tryd.prog 29 #[.string a0] w fun e w' => e = .returned (.tuple #[.int .i64 r1, .nilIface]) ∧ Below w.heap.size w w' := by
  unfold strconv_Atoi.f at h
  split at h
  · rename_i hb
    split at h
    · rename_i v hv
      cases h
      refine (Tryd.strconv_Atoi_ok a0 hb _ hv w).mono ?_
      rintro e w' ⟨rfl, hw⟩
      refine ⟨rfl, ?_⟩
      rcases hw with rfl | ⟨t, rfl⟩
      · exact Below.refl _ _
      · exact Lib.bytesWorld_below _ _ _
    · cases h
  · cases h
def strings_Trim.f (a0 a1 : ByteArray) : Option ByteArray := if a1 = ⟨#[48, 49, 50, 51, 52, 53, 54, 55, 56, 57]⟩ ∧ a0.size ≤ 9223372036854775807 then some ⟨(Lib.trimS a0.data.toList [48, 49, 50, 51, 52, 53, 54, 55, 56, 57]).toArray⟩ else none
theorem strings_Trim.calls (a0 : ByteArray) (a1 : ByteArray) (r : ByteArray) (w : World) (h : strings_Trim.f a0 a1 = some r) :
    Calls Tryd.prog 28 #[.string a0, .string a1] w fun e w' => e = .returned (.string r) ∧ Below w.heap.size w w' := by
  unfold strings_Trim.f at h
  split at h
  · rename_i hb
    cases h
    rw [hb.1]
    exact Tryd.strings_Trim_digits a0 w hb.2
  · cases h
def strings_Repeat.f (a0 : ByteArray) (a1 : Int) : Option ByteArray := if 0 ≤ a1 ∧ a1 ≤ 9223372036854775807 ∧ a0.size * a1.toNat ≤ 140737488355328 then some ⟨(Lib.repeatL a0.data.toList a1.toNat).toArray⟩ else none
theorem strings_Repeat.calls (a0 : ByteArray) (a1 : Int) (r : ByteArray) (w : World) (h : strings_Repeat.f a0 a1 = some r) :
    Calls Tryd.prog 33 #[.string a0, .int .i64 a1] w fun e w' => e = .returned (.string r) ∧ Below w.heap.size w w' := by
  unfold strings_Repeat.f at h
  split at h
  · rename_i hb
    cases h
    obtain ⟨n, rfl⟩ : ∃ n : Nat, a1 = n := ⟨a1.toNat, by omega⟩
    exact Tryd.strings_Repeat a0 n w (by omega) (by simpa using hb.2.2)
  · cases h
def bits_Div32.f (hi lo y : Int) : Option (Int × Int) := if 0 ≤ hi ∧ hi < y ∧ y < 4294967296 ∧ 0 ≤ lo ∧ lo < 4294967296 then some ((hi * 4294967296 + lo) / y, (hi * 4294967296 + lo) % y) else none
theorem u64_or_join (hi lo : Int) (h0 : 0 ≤ hi) (h1 : hi < 4294967296) (h2 : 0 ≤ lo) (h3 : lo < 4294967296) : bits .or .u64 (hi * 4294967296) lo = hi * 4294967296 + lo := by
  rw [u64_or _ _ (by omega) (by omega) h2 (by omega)]
  obtain ⟨a, rfl⟩ : ∃ a : Nat, hi = a := ⟨hi.toNat, by omega⟩
  obtain ⟨b, rfl⟩ : ∃ b : Nat, lo = b := ⟨lo.toNat, by omega⟩
  have e : ((a : Int) * 4294967296).toNat = 2 ^ 32 * a := by omega
  rw [e, Int.toNat_natCast, ← Nat.two_pow_add_eq_or_of_lt (by omega)]
  omega
set_option maxHeartbeats 1000000 in
theorem bits_Div32.calls (a0 : Int) (a1 : Int) (a2 : Int) (r1 : Int) (r2 : Int) (w : World) (h : bits_Div32.f a0 a1 a2 = some (r1, r2)) :
    Calls Tryd.prog 58 #[.int .u32 a0, .int .u32 a1, .int .u32 a2] w fun e w' => e = .returned (.tuple #[.int .u32 r1, .int .u32 r2]) ∧ Drawn0 w w' := by
  unfold bits_Div32.f at h
  split at h
  · rename_i hb
    obtain ⟨h0, h1, h2, h3, h4⟩ := hb
    cases h
    have n0 : (a2 == 0) = false := by simp; omega
    have n1 : decide (a2 ≤ a0) = false := by simp; omega
    have ho := u64_or_join a0 a1 h0 (by omega) h3 h4
    have h5 : a0 < 4294967296 := by omega
    obtain ⟨z, hz⟩ : ∃ z, a0 * 4294967296 + a1 = z := ⟨_, rfl⟩
    have q0 : 0 ≤ z / a2 := Int.ediv_nonneg (by omega) (by omega)
    have q1 : z / a2 < 4294967296 := Int.ediv_lt_of_lt_mul (by omega) (by omega)
    have m0 : 0 ≤ z % a2 := Int.emod_nonneg _ (by omega)
    have m1 : z % a2 < 4294967296 := Int.lt_trans (Int.emod_lt_of_pos z (by omega)) h2
    have z0 : 0 ≤ z := by omega
    have z1 : z ≤ 18446744069414584319 := by omega
    rw [hz] at ho ⊢
    clear hz
    go_enter Tryd.func58, Tryd.ntmps58
    go_wp2
    go_quiet (fail)
    go_wp2
    go_ret2
    exact ⟨rfl, ⟨_, rfl⟩⟩
  · cases h
theorem top_bit (n : Nat) (h : n < 4294967296) : n / 2147483648 = (n.testBit 31).toNat := by
  rw [Nat.testBit_eq_decide_div_mod_eq]
  have : n / 2 ^ 31 % 2 = n / 2147483648 := by omega
  rw [this]
  have h2 : n / 2147483648 = 0 ∨ n / 2147483648 = 1 := by omega
  rcases h2 with h2 | h2 <;> simp [h2]
theorem top_of (n : Nat) (h : n < 4294967296) : n.testBit 31 = decide (2147483648 ≤ n) := by
  have := top_bit n h
  by_cases c : 2147483648 ≤ n
  · have e : n / 2147483648 = 1 := by omega
    rw [e] at this
    simp only [c, decide_true]
    cases hb : n.testBit 31
    · rw [hb] at this; simp at this
    · rfl
  · have e : n / 2147483648 = 0 := by omega
    rw [e] at this
    simp only [c, decide_false]
    cases hb : n.testBit 31
    · rfl
    · rw [hb] at this; simp at this
theorem sub32_borrow (x y b : Int) (h0 : 0 ≤ x) (h1 : x < 4294967296) (h2 : 0 ≤ y) (h3 : y < 4294967296) (h4 : 0 ≤ b) (h5 : b ≤ 1) :
    bits .or .u32 (bits .and .u32 (bits .xor .u32 IntKind.u32.max x) y) (bits .and .u32 (bits .xor .u32 IntKind.u32.max (bits .xor .u32 x y)) ((x - y - b) % 4294967296)) / 2147483648 = if x < y + b then 1 else 0 := by
  have em : IntKind.u32.max = ((4294967295 : Nat) : Int) := by decide
  obtain ⟨X, rfl⟩ : ∃ a : Nat, x = a := ⟨x.toNat, by omega⟩
  obtain ⟨Y, rfl⟩ : ∃ a : Nat, y = a := ⟨y.toNat, by omega⟩
  obtain ⟨Bb, rfl⟩ : ∃ a : Nat, b = a := ⟨b.toNat, by omega⟩
  obtain ⟨D, hD⟩ : ∃ a : Nat, ((X : Int) - Y - Bb) % 4294967296 = a := ⟨(((X : Int) - Y - Bb) % 4294967296).toNat, by omega⟩
  rw [hD, em]
  have hX : X < 2 ^ 32 := by omega
  have hY : Y < 2 ^ 32 := by omega
  have hDl : D < 2 ^ 32 := by omega
  have hM : 4294967295 < 2 ^ 32 := by decide
  have xl : X ^^^ Y < 2 ^ 32 := Nat.xor_lt_two_pow hX hY
  have nx : 4294967295 ^^^ X < 2 ^ 32 := Nat.xor_lt_two_pow hM hX
  have nxy : 4294967295 ^^^ (X ^^^ Y) < 2 ^ 32 := Nat.xor_lt_two_pow hM xl
  have a1 : (4294967295 ^^^ X) &&& Y < 2 ^ 32 := Nat.and_lt_two_pow _ hY
  have a2 : (4294967295 ^^^ (X ^^^ Y)) &&& D < 2 ^ 32 := Nat.and_lt_two_pow _ hDl
  rw [u32_xor_nat _ _ (by decide) (by omega), u32_xor_nat X Y (by omega) (by omega), u32_xor_nat _ _ (by decide) (by omega), u32_and_nat _ _ (by omega) (by omega), u32_and_nat _ _ (by omega) (by omega), u32_or_nat _ _ (by omega) (by omega)]
  have ol : ((4294967295 ^^^ X) &&& Y) ||| ((4294967295 ^^^ (X ^^^ Y)) &&& D) < 2 ^ 32 := Nat.or_lt_two_pow a1 a2
  have e : ((((4294967295 ^^^ X) &&& Y) ||| ((4294967295 ^^^ (X ^^^ Y)) &&& D) : Nat) : Int) / 2147483648 = (((((4294967295 ^^^ X) &&& Y) ||| ((4294967295 ^^^ (X ^^^ Y)) &&& D)) / 2147483648 : Nat) : Int) := by omega
  rw [e, top_bit _ (by omega)]
  simp only [Nat.testBit_or, Nat.testBit_and, Nat.testBit_xor]
  rw [top_of X (by omega), top_of Y (by omega), top_of D (by omega), show Nat.testBit 4294967295 31 = true by decide]
  by_cases cx : 2147483648 ≤ X <;> by_cases cy : 2147483648 ≤ Y <;> by_cases cd : 2147483648 ≤ D <;> simp [cx, cy, cd] <;> omega
def bits_Sub32.f (x y b : Int) : Option (Int × Int) := if 0 ≤ x ∧ x < 4294967296 ∧ 0 ≤ y ∧ y < 4294967296 ∧ 0 ≤ b ∧ b ≤ 1 then some ((x - y - b) % 4294967296, if x < y + b then 1 else 0) else none
set_option maxHeartbeats 1000000 in
theorem bits_Sub32.calls (a0 : Int) (a1 : Int) (a2 : Int) (r1 : Int) (r2 : Int) (w : World) (h : bits_Sub32.f a0 a1 a2 = some (r1, r2)) :
    Calls Tryd.prog 44 #[.int .u32 a0, .int .u32 a1, .int .u32 a2] w fun e w' => e = .returned (.tuple #[.int .u32 r1, .int .u32 r2]) ∧ Drawn0 w w' := by
  unfold bits_Sub32.f at h
  split at h
  · rename_i hb
    obtain ⟨h0, h1, h2, h3, h4, h5⟩ := hb
    cases h
    have hs := sub32_borrow a0 a1 a2 h0 h1 h2 h3 h4 h5
    obtain ⟨c, hc⟩ : ∃ c, (if a0 < a1 + a2 then (1 : Int) else 0) = c := ⟨_, rfl⟩
    rw [hc] at hs ⊢
    have HS := Aside0.mk hs
    clear hs hc
    go_enter Tryd.func44, Tryd.ntmps44
    go_wp2
    go_ret2
    exact ⟨by rw [← HS.out]; rfl, ⟨0, by simp [World.drewN_zero]⟩⟩
  · cases h
def bits_Len32.f (x : Int) : Option Int := if 0 ≤ x ∧ x ≤ 4294967295 then some (Lib.bitLen x.toNat : Int) else none
theorem bits_Len32.calls (a0 : Int) (r : Int) (w : World) (h : bits_Len32.f a0 = some r) :
    Calls Tryd.prog 45 #[.int .u32 a0] w fun e w' => e = .returned (.int .i64 r) ∧ Drawn0 w w' := by
  unfold bits_Len32.f at h
  split at h
  · rename_i hb
    cases h
    refine (Tryd.bits_Len32 a0 w hb.1 hb.2).mono ?_
    rintro e w' ⟨rfl, rfl⟩
    exact ⟨rfl, Drawn0.refl _⟩
  · cases h
def bits_LeadingZeros32.f (x : Int) : Option Int := if 0 ≤ x ∧ x ≤ 4294967295 then some (32 - (Lib.bitLen x.toNat : Int)) else none
theorem bits_LeadingZeros32.calls (a0 : Int) (r : Int) (w : World) (h : bits_LeadingZeros32.f a0 = some r) :
    Calls Tryd.prog 38 #[.int .u32 a0] w fun e w' => e = .returned (.int .i64 r) ∧ Drawn0 w w' := by
  unfold bits_LeadingZeros32.f at h
  split at h
  · rename_i hb
    cases h
    refine (Tryd.bits_LeadingZeros32 a0 w hb.1 hb.2).mono ?_
    rintro e w' ⟨rfl, rfl⟩
    exact ⟨rfl, Drawn0.refl _⟩
  · cases h
end Go.Proofs.YtmjkhbjfacfmcaaDoor
end
section
namespace Go.Proofs.YtmjkhbjfacfmcaaDoor.VX
open Go Go.RowKit Go.Proofs.YtmjkhbjfacfmcaaDoor.NM Go.Proofs.YtmjkhbjfacfmcaaDoor.NT Go.Proofs.YtmjkhbjfacfmcaaDoorW.PrintWords
set_option linter.unusedVariables false
set_option linter.unusedSimpArgs false
theorem fn_lib {X : Ctx} {f : Nat} (vals : List Value) {r : V} {v : Value} (hr : ∀ w ok, RepV w ok r v) (h : ∀ w, X.G w → Calls X.P f vals.toArray w fun e w' => e = .returned v ∧ Below w.heap.size w w') : Fn X f (vals.map .sc) r := by
  intro w ok0 φ vs G ng HR mg lt RA
  have hvs : vs = vals := by
    have h1 := RA.1
    have h2 := RA.2
    rw [List.length_map, List.length_map] at h1
    refine List.ext_getElem h1 fun i hi hj => ?_
    exact repV_sc (h2 i (.v (.sc vals[i])) vs[i] (by simp [List.getElem?_eq_getElem hj]) (by simp [List.getElem?_eq_getElem hi]))
  subst hvs
  refine (h w G).mono ?_
  rintro e w' ⟨rfl, hb⟩
  refine ⟨v, noH, .v r, φ, rfl, ⟨rfl, rfl⟩, ?_, .v _ _ (hr _ _), ?_⟩
  · refine ⟨?_, ?_, ?_, ?_, hb.os.trans HR.os, hb.tape.trans HR.tape, hb.output.trans HR.output, hb.size, HR.ok0⟩
    · intro id b hb; cases hb
    · intro id id' pl pl' hb; cases hb
    · intro id pl hb; cases hb
    · intro b hlt _; exact hb.block b hlt
  · intro k _ hk; cases hk
theorem repV_tu2 {w : World} {ok : Nat → Prop} (a b : Value) : RepV w ok (.tu [.sc a, .sc b]) (.tuple #[a, b]) := by
  refine .tu _ _ rfl fun i x u hx hu => ?_
  match i with
  | 0 => cases hx; cases hu; exact .sc _
  | 1 => cases hx; cases hu; exact .sc _
  | i + 2 => simp at hx
theorem drawn0_below {w w' : World} (h : Drawn0 w w') : Below w.heap.size w w' := by
  obtain ⟨n, rfl⟩ := h
  exact pw_below_drewN (Below.refl _ _) n
noncomputable def ctxAt (w0 : World) : Ctx where
  P := Tryd.prog
  G w := ∀ b, b < w0.heap.size → w.heap[b]? = w0.heap[b]?
  ng := w0.heap.size
  hG w w' h g b hb := (h b hb).trans (g b hb)
  hm := by kernel_rfl
theorem ctx_glw {w0 : World} (h : GLw w0) {w : World} (g : (ctxAt w0).G w) : GLw w := by
  have hs : w0.heap.size ≤ w.heap.size := by
    rcases Nat.lt_or_ge w.heap.size w0.heap.size with h1 | h1
    · have h2 := g w.heap.size h1
      rw [Array.getElem?_eq_none (Nat.le_refl _), Array.getElem?_eq_getElem h1] at h2
      cases h2
    · exact h1
  have h3 : GLw { w0 with heap := w.heap } := h.mono ⟨rfl, rfl, rfl, hs, g⟩
  exact ⟨h3.tab⟩
theorem libS {w0 : World} (h : GLw w0) : LibS (ctxAt w0) where
  P := rfl
  div32 := fun hi lo y hb => fn_lib [.int .u32 hi, .int .u32 lo, .int .u32 y] (fun _ _ => repV_tu2 _ _) fun w _ => (bits_Div32.calls hi lo y _ _ w (by unfold bits_Div32.f; rw [if_pos hb])).mono fun e w' h => ⟨h.1, drawn0_below h.2⟩
  sub32 := fun x y b hb => fn_lib [.int .u32 x, .int .u32 y, .int .u32 b] (fun _ _ => repV_tu2 _ _) fun w _ => (bits_Sub32.calls x y b _ _ w (by unfold bits_Sub32.f; rw [if_pos hb])).mono fun e w' h => ⟨h.1, drawn0_below h.2⟩
  len32 := fun x hb => fn_lib [.int .u32 x] (fun _ _ => .sc _) fun w _ => (bits_Len32.calls x _ w (by unfold bits_Len32.f; rw [if_pos (by omega)])).mono fun e w' h => ⟨h.1, drawn0_below h.2⟩
  lz32 := fun x hb => fn_lib [.int .u32 x] (fun _ _ => .sc _) fun w _ => (bits_LeadingZeros32.calls x _ w (by unfold bits_LeadingZeros32.f; rw [if_pos (by omega)])).mono fun e w' h => ⟨h.1, drawn0_below h.2⟩
  itoa := fun n h0 h1 => fn_lib [.int .i64 n] (fun _ _ => .sc _) fun w g => strconv_Itoa.calls n _ w (ctx_glw h g) (by unfold strconv_Itoa.f; rw [if_pos ⟨h0, h1⟩])
  atoi := fun l hd h0 hl => fn_lib [.string ⟨l.toArray⟩] (fun _ _ => repV_tu2 _ _) fun w _ => strconv_Atoi.calls ⟨l.toArray⟩ _ none w (by
    unfold strconv_Atoi.f
    rw [if_pos (by simp [ByteArray.size]; omega)]
    simp [atoi_digits hd h0 hl])
  trim := fun l hl => fn_lib [.string ⟨l.toArray⟩, .string _] (fun _ _ => .sc _) fun w _ => strings_Trim.calls ⟨l.toArray⟩ _ _ w (by
    unfold strings_Trim.f
    rw [if_pos ⟨rfl, by simp [ByteArray.size]; omega⟩])
  rep := fun l n h0 h1 h2 => fn_lib [.string ⟨l.toArray⟩, .int .i64 n] (fun _ _ => .sc _) fun w _ => strings_Repeat.calls ⟨l.toArray⟩ n _ w (by
    unfold strings_Repeat.f
    rw [if_pos ⟨h0, by omega, by simpa [ByteArray.size] using h1⟩])
theorem fn_walk {w : World} {f : Nat} {args : List V} {r : V} (h : Fn (ctxAt w) f args r) (vals : List Value) (hv : vals.length = args.length) (ha : ∀ (i : Nat) x u, args[i]? = some x → vals[i]? = some u → RepV w (fun b => b < w.heap.size) x u) :
    Calls Tryd.prog f vals.toArray w fun e w' => (∃ v ok, e = .returned v ∧ RepV w' ok r v) ∧ Below w.heap.size w w' := by
  have hM : ∀ b, ¬ Mine noH (fun _ => none) b := fun b ⟨id, pl, h1, _⟩ => by cases h1
  refine (h w (fun b => b < w.heap.size) (fun _ => none) vals (fun b _ => rfl) (Nat.le_refl _) ?_ (fun b hb => absurd hb (hM b)) (fun id hid => by cases hid) ?_).mono ?_
  · exact ⟨fun id b hb => (by cases hb), fun id id' pl pl' hb => (by cases hb), fun id pl hb => (by cases hb), fun _ _ _ => rfl, rfl, rfl, rfl, Nat.le_refl _, fun b hb => ⟨hb, hM b⟩⟩
  · refine ⟨by simpa using hv, fun i x u hx hu => ?_⟩
    rw [List.getElem?_map] at hx
    cases hxx : args[i]? with
    | none => simp [hxx] at hx
    | some x' =>
      simp only [hxx, Option.map_some, Option.some.injEq] at hx
      subst hx
      exact .v _ _ ((ha i x' u hxx hu).mono fun b hb => ⟨⟨.inl hb, hb, fun id pl hid => by cases hid⟩, rfl⟩)
  · rintro e w' ⟨v, H1, r1, φ', rfl, ⟨rfl, rfl⟩, hr, hv, _⟩
    cases hv with | v _ _ hv =>
    exact ⟨⟨v, _, rfl, hv⟩, hr.os, hr.tape, hr.output, hr.size, fun b hb => hr.old b hb (hM b)⟩
def IsRow (k : IntKind) (w : World) (a : Option Addr) (len cap : Nat) (zs : List Int) : Prop :=
  (a = none ∧ len = 0 ∧ cap = 0 ∧ zs = []) ∨
  ∃ x, a = some x ∧ len ≤ cap ∧ cap ≤ maxLen ∧ zs.length = cap ∧ (∀ i, i < zs.length → w.cell? (x.add i) = some (.int k (zs.getD i 0))) ∧ ∀ n ∈ zs, (Lit.int k n).wf = true
def Wf (k : IntKind) (l : List Int) : Prop := ∀ n ∈ l, (Lit.int k n).wf = true
theorem Wf.take {k : IntKind} {l : List Int} (h : Wf k l) (n : Nat) : Wf k (l.take n) := fun x hx => h x (List.mem_of_mem_take hx)
theorem IsRow.wf {k : IntKind} {w : World} {a : Option Addr} {len cap : Nat} {zs : List Int} (h : IsRow k w a len cap zs) : Wf k zs := by
  rcases h with ⟨_, _, _, rfl⟩ | ⟨x, _, _, _, _, _, h⟩
  · intro n hn; cases hn
  · exact h
theorem cell_lt {w : World} {x : Addr} {u : Value} (h : w.cell? x = some u) : x.block < w.heap.size := by
  rcases Nat.lt_or_ge x.block w.heap.size with h1 | h1
  · exact h1
  · simp [World.cell?, Array.getElem?_eq_none h1] at h
theorem IsRow.rep {k : IntKind} {w : World} {a : Option Addr} {len cap : Nat} {zs : List Int} (h : IsRow k w a len cap zs) : RepV w (fun b => b < w.heap.size) (.sl 1 (nums k (zs.take len))) (.slice a len cap) := by
  rcases h with ⟨rfl, rfl, rfl, rfl⟩ | ⟨x, rfl, h1, h2, h3, h4, _⟩
  · exact .sn 1
  · have hl : (zs.take len).length = len := by rw [List.length_take]; omega
    have hc : ∀ j, j < len → w.cell? (x.add j) = some (.int k (zs.getD j 0)) := fun j hj => h4 j (by omega)
    have hget : ∀ (j f : Nat) r y, (nums k (zs.take len))[j]? = some r → r[f]? = some y → j < len ∧ f = 0 ∧ y = .sc (.int k (zs.getD j 0)) := by
      intro j f r y hr hy
      have hj := nums_get_lt hr
      rw [hl] at hj
      rw [nums_get k _ j (by rw [hl]; exact hj)] at hr
      cases hr
      match f with
      | 0 =>
        cases hy
        refine ⟨hj, rfl, ?_⟩
        rw [rd_nat _ _ (by rw [hl]; exact hj), List.getElem_take, List.getD_eq_getElem?_getD, List.getElem?_eq_getElem (by omega)]; rfl
      | f + 1 => simp at hy
    refine .sl 1 _ x len cap (by rw [nums_length, hl]) h1 h2 (by intro r hr; simp only [nums, List.mem_map] at hr; obtain ⟨_, _, rfl⟩ := hr; rfl) (fun h0 => cell_lt (x := x) (u := .int k (zs.getD 0 0)) ?_) (fun j _ => .int k (zs.getD j 0)) ?_ ?_
    · have := hc 0 h0
      simpa [Addr.add] using this
    · intro j f r y hr hy
      obtain ⟨hj, rfl, rfl⟩ := hget j f r y hr hy
      exact ⟨by rw [Nat.mul_one, Nat.add_zero]; exact hc j hj, rfl⟩
    · intro j f r y hr hy
      obtain ⟨hj, rfl, rfl⟩ := hget j f r y hr hy
      exact .sc _
theorem reps_nil {w : World} {ok : Nat → Prop} : ∀ (i : Nat) x u, ([] : List V)[i]? = some x → ([] : List Value)[i]? = some u → RepV w ok x u := fun i x u h => by simp at h
theorem reps_cons {w : World} {ok : Nat → Prop} {v : V} {u : Value} {vs : List V} {us : List Value} (h : RepV w ok v u) (hs : ∀ (i : Nat) x u, vs[i]? = some x → us[i]? = some u → RepV w ok x u) : ∀ (i : Nat) x y, (v :: vs)[i]? = some x → (u :: us)[i]? = some y → RepV w ok x y := fun i x y hx hy => by
  match i with
  | 0 => cases hx; cases hy; exact h
  | i + 1 => exact hs i x y (by simpa using hx) (by simpa using hy)
end Go.Proofs.YtmjkhbjfacfmcaaDoor.VX
end
section
namespace Go.Proofs.YtmjkhbjfacfmcaaDoor.VX
open Go Go.RowKit Go.Proofs.YtmjkhbjfacfmcaaDoor.NM Go.Proofs.YtmjkhbjfacfmcaaDoor.NT Go.Proofs.YtmjkhbjfacfmcaaDoor.RV IntWalk
set_option linter.unusedVariables false
set_option linter.unusedSimpArgs false
variable {X : Ctx}
theorem dig_of_wf {l : List Int} (h : Wf .u32 l) : Dig 4294967296 l := fun x hx => by
  have := h x hx
  simp [Lit.wf, IntKind.min, IntKind.max, IntKind.signed, IntKind.bits] at this
  omega
end Go.Proofs.YtmjkhbjfacfmcaaDoor.VX
end
section
namespace Go.Proofs.YtmjkhbjfacfmcaaDoor.VX
open Go Go.RowKit Go.Proofs.YtmjkhbjfacfmcaaDoor.NM Go.Proofs.YtmjkhbjfacfmcaaDoor.NT Go.Proofs.YtmjkhbjfacfmcaaDoor.RV IntWalk
set_option linter.unusedVariables false
set_option linter.unusedSimpArgs false
variable {X : Ctx}
theorem NatAlgebra_fn (hL : LibS X) (a b c : List Int) (ha : Wf .u32 a) (hb : Wf .u32 b) (hc : Wf .u32 c) : Fn X 7 [u32s a, u32s b, u32s c] (.sc (.bool true)) := by
  have ha := dig_of_wf ha
  have hb := dig_of_wf hb
  have hc := dig_of_wf hc
  have s1 := small_fn hL.P a b
  have s2 := small_fn hL.P c []
  refine W_waypointlaw01_NatAlgebra hL.P rfl ?_
  by_cases h1 : a.length ≤ 12 ∧ b.length ≤ 12
  · rw [decide_eq_true h1] at s1
    by_cases h3 : c.length ≤ 12
    · rw [decide_eq_true ⟨h3, by simp⟩] at s2
      simp (disch := omega) only [sd_t, dec_t, dec_f, i64_in, u32_in, u64_in, i64_quo, u32_quo, u64_quo, rem_in, Int.toNat_of_nonneg, go_sem, reduceCtorEq, ↓reduceIte, Nat.reduceEqDiff, Nat.reduceAdd, Nat.reduceSub, Nat.reduceMul, Nat.reduceLT, Nat.reduceLeDiff, Nat.reduceBEq, Nat.reduceBNe, Nat.reducePow, Nat.reduceDiv, Nat.reduceMod, Int.reduceAdd, Int.reduceSub, Int.reduceMul, Int.reduceLT, Int.reduceLE, Int.reduceEq, Int.reduceNe, Int.reduceNeg, Int.reduceToNat, Int.reducePow, Int.reduceDiv, Int.reduceMod, F_waypointlaw01_NatAlgebra, R_waypointlaw01_NatAlgebra]
      refine cp_of (awake_fn hL) rfl ?_
      simp (disch := omega) only [sd_t, dec_t, dec_f, i64_in, u32_in, u64_in, i64_quo, u32_quo, u64_quo, rem_in, Int.toNat_of_nonneg, go_sem, reduceCtorEq, ↓reduceIte, Nat.reduceEqDiff, Nat.reduceAdd, Nat.reduceSub, Nat.reduceMul, Nat.reduceLT, Nat.reduceLeDiff, Nat.reduceBEq, Nat.reduceBNe, Nat.reducePow, Nat.reduceDiv, Nat.reduceMod, Int.reduceAdd, Int.reduceSub, Int.reduceMul, Int.reduceLT, Int.reduceLE, Int.reduceEq, Int.reduceNe, Int.reduceNeg, Int.reduceToNat, Int.reducePow, Int.reduceDiv, Int.reduceMod]
      refine cp_of (s1) rfl ?_
      simp (disch := omega) only [sd_t, dec_t, dec_f, i64_in, u32_in, u64_in, i64_quo, u32_quo, u64_quo, rem_in, Int.toNat_of_nonneg, go_sem, reduceCtorEq, ↓reduceIte, Nat.reduceEqDiff, Nat.reduceAdd, Nat.reduceSub, Nat.reduceMul, Nat.reduceLT, Nat.reduceLeDiff, Nat.reduceBEq, Nat.reduceBNe, Nat.reducePow, Nat.reduceDiv, Nat.reduceMod, Int.reduceAdd, Int.reduceSub, Int.reduceMul, Int.reduceLT, Int.reduceLE, Int.reduceEq, Int.reduceNe, Int.reduceNeg, Int.reduceToNat, Int.reducePow, Int.reduceDiv, Int.reduceMod]
      refine cp_of (s2) rfl ?_
      simp (disch := omega) only [sd_t, dec_t, dec_f, i64_in, u32_in, u64_in, i64_quo, u32_quo, u64_quo, rem_in, Int.toNat_of_nonneg, go_sem, reduceCtorEq, ↓reduceIte, Nat.reduceEqDiff, Nat.reduceAdd, Nat.reduceSub, Nat.reduceMul, Nat.reduceLT, Nat.reduceLeDiff, Nat.reduceBEq, Nat.reduceBNe, Nat.reducePow, Nat.reduceDiv, Nat.reduceMod, Int.reduceAdd, Int.reduceSub, Int.reduceMul, Int.reduceLT, Int.reduceLE, Int.reduceEq, Int.reduceNe, Int.reduceNeg, Int.reduceToNat, Int.reducePow, Int.reduceDiv, Int.reduceMod]
      refine cp_of (number_fn hL a ha h1.1) rfl ?_
      simp (disch := omega) only [sd_t, dec_t, dec_f, i64_in, u32_in, u64_in, i64_quo, u32_quo, u64_quo, rem_in, Int.toNat_of_nonneg, go_sem, reduceCtorEq, ↓reduceIte, Nat.reduceEqDiff, Nat.reduceAdd, Nat.reduceSub, Nat.reduceMul, Nat.reduceLT, Nat.reduceLeDiff, Nat.reduceBEq, Nat.reduceBNe, Nat.reducePow, Nat.reduceDiv, Nat.reduceMod, Int.reduceAdd, Int.reduceSub, Int.reduceMul, Int.reduceLT, Int.reduceLE, Int.reduceEq, Int.reduceNe, Int.reduceNeg, Int.reduceToNat, Int.reducePow, Int.reduceDiv, Int.reduceMod]
      refine cp_of (number_fn hL b hb h1.2) rfl ?_
      simp (disch := omega) only [sd_t, dec_t, dec_f, i64_in, u32_in, u64_in, i64_quo, u32_quo, u64_quo, rem_in, Int.toNat_of_nonneg, go_sem, reduceCtorEq, ↓reduceIte, Nat.reduceEqDiff, Nat.reduceAdd, Nat.reduceSub, Nat.reduceMul, Nat.reduceLT, Nat.reduceLeDiff, Nat.reduceBEq, Nat.reduceBNe, Nat.reducePow, Nat.reduceDiv, Nat.reduceMod, Int.reduceAdd, Int.reduceSub, Int.reduceMul, Int.reduceLT, Int.reduceLE, Int.reduceEq, Int.reduceNe, Int.reduceNeg, Int.reduceToNat, Int.reducePow, Int.reduceDiv, Int.reduceMod]
      refine cp_of (number_fn hL c hc h3) rfl ?_
      simp (disch := omega) only [sd_t, dec_t, dec_f, i64_in, u32_in, u64_in, i64_quo, u32_quo, u64_quo, rem_in, Int.toNat_of_nonneg, go_sem, reduceCtorEq, ↓reduceIte, Nat.reduceEqDiff, Nat.reduceAdd, Nat.reduceSub, Nat.reduceMul, Nat.reduceLT, Nat.reduceLeDiff, Nat.reduceBEq, Nat.reduceBNe, Nat.reducePow, Nat.reduceDiv, Nat.reduceMod, Int.reduceAdd, Int.reduceSub, Int.reduceMul, Int.reduceLT, Int.reduceLE, Int.reduceEq, Int.reduceNe, Int.reduceNeg, Int.reduceToNat, Int.reducePow, Int.reduceDiv, Int.reduceMod]
      have sx := num_sz ha h1.1
      have sy := num_sz hb h1.2
      have sz := num_sz hc h3
      generalize num a = x at *
      generalize num b = y at *
      generalize num c = z at *
      have e1 : y + x = x + y := Nat.add_comm y x
      have e2 : x + (y + z) = x + y + z := (Nat.add_assoc x y z).symm
      have e3 : y * x = x * y := Nat.mul_comm y x
      have e4 : x * (y * z) = x * y * z := (Nat.mul_assoc x y z).symm
      have e5 : x * (y + z) = x * y + x * z := Nat.mul_add x y z
      have e6 : x + y - y = x := Nat.add_sub_cancel x y
      have sxy := sx.add sy
      have syz := sy.add sz
      have sxyz := sxy.add (sz.mono (show 12 ≤ 13 by omega))
      have mxy := sx.mul sy
      have myz := sy.mul sz
      have mxz := sx.mul sz
      have mxyz := mxy.mul sz
      have mad := mxy.add mxz
      have l1 := sx.d32
      have l2 := sy.d32
      have l3 := sz.d32
      have l4 := sxy.d32
      have l5 := syz.d32
      have l6 := mxy.d32
      have l7 := myz.d32
      have l8 := mxz.d32
      have a1 := Add_fn hL.P x y (by omega) (by omega)
      have a2 := Add_fn hL.P y x (by omega) (by omega)
      rw [e1] at a2
      have a3 := Add_fn hL.P (x + y) z (by omega) (by omega)
      have a4 := Add_fn hL.P y z (by omega) (by omega)
      have a5 := Add_fn hL.P x (y + z) (by omega) (by omega)
      rw [e2] at a5
      have b1 := Mul_fn hL.P x y (by omega)
      have b2 := Mul_fn hL.P y x (by omega)
      rw [e3] at b2
      have b3 := Mul_fn hL.P (x * y) z (by omega)
      have b4 := Mul_fn hL.P y z (by omega)
      have b5 := Mul_fn hL.P x (y * z) (by omega)
      rw [e4] at b5
      have b6 := Mul_fn hL.P x (y + z) (by omega)
      rw [e5] at b6
      have b7 := Mul_fn hL.P x z (by omega)
      have a6 := Add_fn hL.P (x * y) (x * z) (by omega) (by omega)
      have d1 := Sub_fn hL.toLibN (x + y) y (by omega) (by omega)
      rw [e6] at d1
      refine cp_of (a1) rfl ?_
      simp (disch := omega) only [sd_t, dec_t, dec_f, i64_in, u32_in, u64_in, i64_quo, u32_quo, u64_quo, rem_in, Int.toNat_of_nonneg, go_sem, reduceCtorEq, ↓reduceIte, Nat.reduceEqDiff, Nat.reduceAdd, Nat.reduceSub, Nat.reduceMul, Nat.reduceLT, Nat.reduceLeDiff, Nat.reduceBEq, Nat.reduceBNe, Nat.reducePow, Nat.reduceDiv, Nat.reduceMod, Int.reduceAdd, Int.reduceSub, Int.reduceMul, Int.reduceLT, Int.reduceLE, Int.reduceEq, Int.reduceNe, Int.reduceNeg, Int.reduceToNat, Int.reducePow, Int.reduceDiv, Int.reduceMod]
      refine cp_of (d1) rfl ?_
      simp (disch := omega) only [sd_t, dec_t, dec_f, i64_in, u32_in, u64_in, i64_quo, u32_quo, u64_quo, rem_in, Int.toNat_of_nonneg, go_sem, reduceCtorEq, ↓reduceIte, Nat.reduceEqDiff, Nat.reduceAdd, Nat.reduceSub, Nat.reduceMul, Nat.reduceLT, Nat.reduceLeDiff, Nat.reduceBEq, Nat.reduceBNe, Nat.reducePow, Nat.reduceDiv, Nat.reduceMod, Int.reduceAdd, Int.reduceSub, Int.reduceMul, Int.reduceLT, Int.reduceLE, Int.reduceEq, Int.reduceNe, Int.reduceNeg, Int.reduceToNat, Int.reducePow, Int.reduceDiv, Int.reduceMod]
      refine cp_of (a1) rfl ?_
      simp (disch := omega) only [sd_t, dec_t, dec_f, i64_in, u32_in, u64_in, i64_quo, u32_quo, u64_quo, rem_in, Int.toNat_of_nonneg, go_sem, reduceCtorEq, ↓reduceIte, Nat.reduceEqDiff, Nat.reduceAdd, Nat.reduceSub, Nat.reduceMul, Nat.reduceLT, Nat.reduceLeDiff, Nat.reduceBEq, Nat.reduceBNe, Nat.reducePow, Nat.reduceDiv, Nat.reduceMod, Int.reduceAdd, Int.reduceSub, Int.reduceMul, Int.reduceLT, Int.reduceLE, Int.reduceEq, Int.reduceNe, Int.reduceNeg, Int.reduceToNat, Int.reducePow, Int.reduceDiv, Int.reduceMod]
      refine cp_of (a2) rfl ?_
      simp (disch := omega) only [sd_t, dec_t, dec_f, i64_in, u32_in, u64_in, i64_quo, u32_quo, u64_quo, rem_in, Int.toNat_of_nonneg, go_sem, reduceCtorEq, ↓reduceIte, Nat.reduceEqDiff, Nat.reduceAdd, Nat.reduceSub, Nat.reduceMul, Nat.reduceLT, Nat.reduceLeDiff, Nat.reduceBEq, Nat.reduceBNe, Nat.reducePow, Nat.reduceDiv, Nat.reduceMod, Int.reduceAdd, Int.reduceSub, Int.reduceMul, Int.reduceLT, Int.reduceLE, Int.reduceEq, Int.reduceNe, Int.reduceNeg, Int.reduceToNat, Int.reducePow, Int.reduceDiv, Int.reduceMod]
      refine cp_of (same_fn hL sxy (by omega)) rfl ?_
      simp (disch := omega) only [sd_t, dec_t, dec_f, i64_in, u32_in, u64_in, i64_quo, u32_quo, u64_quo, rem_in, Int.toNat_of_nonneg, go_sem, reduceCtorEq, ↓reduceIte, Nat.reduceEqDiff, Nat.reduceAdd, Nat.reduceSub, Nat.reduceMul, Nat.reduceLT, Nat.reduceLeDiff, Nat.reduceBEq, Nat.reduceBNe, Nat.reducePow, Nat.reduceDiv, Nat.reduceMod, Int.reduceAdd, Int.reduceSub, Int.reduceMul, Int.reduceLT, Int.reduceLE, Int.reduceEq, Int.reduceNe, Int.reduceNeg, Int.reduceToNat, Int.reducePow, Int.reduceDiv, Int.reduceMod]
      refine cp_of (a1) rfl ?_
      simp (disch := omega) only [sd_t, dec_t, dec_f, i64_in, u32_in, u64_in, i64_quo, u32_quo, u64_quo, rem_in, Int.toNat_of_nonneg, go_sem, reduceCtorEq, ↓reduceIte, Nat.reduceEqDiff, Nat.reduceAdd, Nat.reduceSub, Nat.reduceMul, Nat.reduceLT, Nat.reduceLeDiff, Nat.reduceBEq, Nat.reduceBNe, Nat.reducePow, Nat.reduceDiv, Nat.reduceMod, Int.reduceAdd, Int.reduceSub, Int.reduceMul, Int.reduceLT, Int.reduceLE, Int.reduceEq, Int.reduceNe, Int.reduceNeg, Int.reduceToNat, Int.reducePow, Int.reduceDiv, Int.reduceMod]
      refine cp_of (a3) rfl ?_
      simp (disch := omega) only [sd_t, dec_t, dec_f, i64_in, u32_in, u64_in, i64_quo, u32_quo, u64_quo, rem_in, Int.toNat_of_nonneg, go_sem, reduceCtorEq, ↓reduceIte, Nat.reduceEqDiff, Nat.reduceAdd, Nat.reduceSub, Nat.reduceMul, Nat.reduceLT, Nat.reduceLeDiff, Nat.reduceBEq, Nat.reduceBNe, Nat.reducePow, Nat.reduceDiv, Nat.reduceMod, Int.reduceAdd, Int.reduceSub, Int.reduceMul, Int.reduceLT, Int.reduceLE, Int.reduceEq, Int.reduceNe, Int.reduceNeg, Int.reduceToNat, Int.reducePow, Int.reduceDiv, Int.reduceMod]
      refine cp_of (a4) rfl ?_
      simp (disch := omega) only [sd_t, dec_t, dec_f, i64_in, u32_in, u64_in, i64_quo, u32_quo, u64_quo, rem_in, Int.toNat_of_nonneg, go_sem, reduceCtorEq, ↓reduceIte, Nat.reduceEqDiff, Nat.reduceAdd, Nat.reduceSub, Nat.reduceMul, Nat.reduceLT, Nat.reduceLeDiff, Nat.reduceBEq, Nat.reduceBNe, Nat.reducePow, Nat.reduceDiv, Nat.reduceMod, Int.reduceAdd, Int.reduceSub, Int.reduceMul, Int.reduceLT, Int.reduceLE, Int.reduceEq, Int.reduceNe, Int.reduceNeg, Int.reduceToNat, Int.reducePow, Int.reduceDiv, Int.reduceMod]
      refine cp_of (a5) rfl ?_
      simp (disch := omega) only [sd_t, dec_t, dec_f, i64_in, u32_in, u64_in, i64_quo, u32_quo, u64_quo, rem_in, Int.toNat_of_nonneg, go_sem, reduceCtorEq, ↓reduceIte, Nat.reduceEqDiff, Nat.reduceAdd, Nat.reduceSub, Nat.reduceMul, Nat.reduceLT, Nat.reduceLeDiff, Nat.reduceBEq, Nat.reduceBNe, Nat.reducePow, Nat.reduceDiv, Nat.reduceMod, Int.reduceAdd, Int.reduceSub, Int.reduceMul, Int.reduceLT, Int.reduceLE, Int.reduceEq, Int.reduceNe, Int.reduceNeg, Int.reduceToNat, Int.reducePow, Int.reduceDiv, Int.reduceMod]
      refine cp_of (same_fn hL sxyz (by omega)) rfl ?_
      simp (disch := omega) only [sd_t, dec_t, dec_f, i64_in, u32_in, u64_in, i64_quo, u32_quo, u64_quo, rem_in, Int.toNat_of_nonneg, go_sem, reduceCtorEq, ↓reduceIte, Nat.reduceEqDiff, Nat.reduceAdd, Nat.reduceSub, Nat.reduceMul, Nat.reduceLT, Nat.reduceLeDiff, Nat.reduceBEq, Nat.reduceBNe, Nat.reducePow, Nat.reduceDiv, Nat.reduceMod, Int.reduceAdd, Int.reduceSub, Int.reduceMul, Int.reduceLT, Int.reduceLE, Int.reduceEq, Int.reduceNe, Int.reduceNeg, Int.reduceToNat, Int.reducePow, Int.reduceDiv, Int.reduceMod]
      refine cp_of (b1) rfl ?_
      simp (disch := omega) only [sd_t, dec_t, dec_f, i64_in, u32_in, u64_in, i64_quo, u32_quo, u64_quo, rem_in, Int.toNat_of_nonneg, go_sem, reduceCtorEq, ↓reduceIte, Nat.reduceEqDiff, Nat.reduceAdd, Nat.reduceSub, Nat.reduceMul, Nat.reduceLT, Nat.reduceLeDiff, Nat.reduceBEq, Nat.reduceBNe, Nat.reducePow, Nat.reduceDiv, Nat.reduceMod, Int.reduceAdd, Int.reduceSub, Int.reduceMul, Int.reduceLT, Int.reduceLE, Int.reduceEq, Int.reduceNe, Int.reduceNeg, Int.reduceToNat, Int.reducePow, Int.reduceDiv, Int.reduceMod]
      refine cp_of (b2) rfl ?_
      simp (disch := omega) only [sd_t, dec_t, dec_f, i64_in, u32_in, u64_in, i64_quo, u32_quo, u64_quo, rem_in, Int.toNat_of_nonneg, go_sem, reduceCtorEq, ↓reduceIte, Nat.reduceEqDiff, Nat.reduceAdd, Nat.reduceSub, Nat.reduceMul, Nat.reduceLT, Nat.reduceLeDiff, Nat.reduceBEq, Nat.reduceBNe, Nat.reducePow, Nat.reduceDiv, Nat.reduceMod, Int.reduceAdd, Int.reduceSub, Int.reduceMul, Int.reduceLT, Int.reduceLE, Int.reduceEq, Int.reduceNe, Int.reduceNeg, Int.reduceToNat, Int.reducePow, Int.reduceDiv, Int.reduceMod]
      refine cp_of (same_fn hL mxy (by omega)) rfl ?_
      simp (disch := omega) only [sd_t, dec_t, dec_f, i64_in, u32_in, u64_in, i64_quo, u32_quo, u64_quo, rem_in, Int.toNat_of_nonneg, go_sem, reduceCtorEq, ↓reduceIte, Nat.reduceEqDiff, Nat.reduceAdd, Nat.reduceSub, Nat.reduceMul, Nat.reduceLT, Nat.reduceLeDiff, Nat.reduceBEq, Nat.reduceBNe, Nat.reducePow, Nat.reduceDiv, Nat.reduceMod, Int.reduceAdd, Int.reduceSub, Int.reduceMul, Int.reduceLT, Int.reduceLE, Int.reduceEq, Int.reduceNe, Int.reduceNeg, Int.reduceToNat, Int.reducePow, Int.reduceDiv, Int.reduceMod]
      refine cp_of (b1) rfl ?_
      simp (disch := omega) only [sd_t, dec_t, dec_f, i64_in, u32_in, u64_in, i64_quo, u32_quo, u64_quo, rem_in, Int.toNat_of_nonneg, go_sem, reduceCtorEq, ↓reduceIte, Nat.reduceEqDiff, Nat.reduceAdd, Nat.reduceSub, Nat.reduceMul, Nat.reduceLT, Nat.reduceLeDiff, Nat.reduceBEq, Nat.reduceBNe, Nat.reducePow, Nat.reduceDiv, Nat.reduceMod, Int.reduceAdd, Int.reduceSub, Int.reduceMul, Int.reduceLT, Int.reduceLE, Int.reduceEq, Int.reduceNe, Int.reduceNeg, Int.reduceToNat, Int.reducePow, Int.reduceDiv, Int.reduceMod]
      refine cp_of (b3) rfl ?_
      simp (disch := omega) only [sd_t, dec_t, dec_f, i64_in, u32_in, u64_in, i64_quo, u32_quo, u64_quo, rem_in, Int.toNat_of_nonneg, go_sem, reduceCtorEq, ↓reduceIte, Nat.reduceEqDiff, Nat.reduceAdd, Nat.reduceSub, Nat.reduceMul, Nat.reduceLT, Nat.reduceLeDiff, Nat.reduceBEq, Nat.reduceBNe, Nat.reducePow, Nat.reduceDiv, Nat.reduceMod, Int.reduceAdd, Int.reduceSub, Int.reduceMul, Int.reduceLT, Int.reduceLE, Int.reduceEq, Int.reduceNe, Int.reduceNeg, Int.reduceToNat, Int.reducePow, Int.reduceDiv, Int.reduceMod]
      refine cp_of (b4) rfl ?_
      simp (disch := omega) only [sd_t, dec_t, dec_f, i64_in, u32_in, u64_in, i64_quo, u32_quo, u64_quo, rem_in, Int.toNat_of_nonneg, go_sem, reduceCtorEq, ↓reduceIte, Nat.reduceEqDiff, Nat.reduceAdd, Nat.reduceSub, Nat.reduceMul, Nat.reduceLT, Nat.reduceLeDiff, Nat.reduceBEq, Nat.reduceBNe, Nat.reducePow, Nat.reduceDiv, Nat.reduceMod, Int.reduceAdd, Int.reduceSub, Int.reduceMul, Int.reduceLT, Int.reduceLE, Int.reduceEq, Int.reduceNe, Int.reduceNeg, Int.reduceToNat, Int.reducePow, Int.reduceDiv, Int.reduceMod]
      refine cp_of (b5) rfl ?_
      simp (disch := omega) only [sd_t, dec_t, dec_f, i64_in, u32_in, u64_in, i64_quo, u32_quo, u64_quo, rem_in, Int.toNat_of_nonneg, go_sem, reduceCtorEq, ↓reduceIte, Nat.reduceEqDiff, Nat.reduceAdd, Nat.reduceSub, Nat.reduceMul, Nat.reduceLT, Nat.reduceLeDiff, Nat.reduceBEq, Nat.reduceBNe, Nat.reducePow, Nat.reduceDiv, Nat.reduceMod, Int.reduceAdd, Int.reduceSub, Int.reduceMul, Int.reduceLT, Int.reduceLE, Int.reduceEq, Int.reduceNe, Int.reduceNeg, Int.reduceToNat, Int.reducePow, Int.reduceDiv, Int.reduceMod]
      refine cp_of (same_fn hL mxyz (by omega)) rfl ?_
      simp (disch := omega) only [sd_t, dec_t, dec_f, i64_in, u32_in, u64_in, i64_quo, u32_quo, u64_quo, rem_in, Int.toNat_of_nonneg, go_sem, reduceCtorEq, ↓reduceIte, Nat.reduceEqDiff, Nat.reduceAdd, Nat.reduceSub, Nat.reduceMul, Nat.reduceLT, Nat.reduceLeDiff, Nat.reduceBEq, Nat.reduceBNe, Nat.reducePow, Nat.reduceDiv, Nat.reduceMod, Int.reduceAdd, Int.reduceSub, Int.reduceMul, Int.reduceLT, Int.reduceLE, Int.reduceEq, Int.reduceNe, Int.reduceNeg, Int.reduceToNat, Int.reducePow, Int.reduceDiv, Int.reduceMod]
      refine cp_of (a4) rfl ?_
      simp (disch := omega) only [sd_t, dec_t, dec_f, i64_in, u32_in, u64_in, i64_quo, u32_quo, u64_quo, rem_in, Int.toNat_of_nonneg, go_sem, reduceCtorEq, ↓reduceIte, Nat.reduceEqDiff, Nat.reduceAdd, Nat.reduceSub, Nat.reduceMul, Nat.reduceLT, Nat.reduceLeDiff, Nat.reduceBEq, Nat.reduceBNe, Nat.reducePow, Nat.reduceDiv, Nat.reduceMod, Int.reduceAdd, Int.reduceSub, Int.reduceMul, Int.reduceLT, Int.reduceLE, Int.reduceEq, Int.reduceNe, Int.reduceNeg, Int.reduceToNat, Int.reducePow, Int.reduceDiv, Int.reduceMod]
      refine cp_of (b6) rfl ?_
      simp (disch := omega) only [sd_t, dec_t, dec_f, i64_in, u32_in, u64_in, i64_quo, u32_quo, u64_quo, rem_in, Int.toNat_of_nonneg, go_sem, reduceCtorEq, ↓reduceIte, Nat.reduceEqDiff, Nat.reduceAdd, Nat.reduceSub, Nat.reduceMul, Nat.reduceLT, Nat.reduceLeDiff, Nat.reduceBEq, Nat.reduceBNe, Nat.reducePow, Nat.reduceDiv, Nat.reduceMod, Int.reduceAdd, Int.reduceSub, Int.reduceMul, Int.reduceLT, Int.reduceLE, Int.reduceEq, Int.reduceNe, Int.reduceNeg, Int.reduceToNat, Int.reducePow, Int.reduceDiv, Int.reduceMod]
      refine cp_of (b1) rfl ?_
      simp (disch := omega) only [sd_t, dec_t, dec_f, i64_in, u32_in, u64_in, i64_quo, u32_quo, u64_quo, rem_in, Int.toNat_of_nonneg, go_sem, reduceCtorEq, ↓reduceIte, Nat.reduceEqDiff, Nat.reduceAdd, Nat.reduceSub, Nat.reduceMul, Nat.reduceLT, Nat.reduceLeDiff, Nat.reduceBEq, Nat.reduceBNe, Nat.reducePow, Nat.reduceDiv, Nat.reduceMod, Int.reduceAdd, Int.reduceSub, Int.reduceMul, Int.reduceLT, Int.reduceLE, Int.reduceEq, Int.reduceNe, Int.reduceNeg, Int.reduceToNat, Int.reducePow, Int.reduceDiv, Int.reduceMod]
      refine cp_of (b7) rfl ?_
      simp (disch := omega) only [sd_t, dec_t, dec_f, i64_in, u32_in, u64_in, i64_quo, u32_quo, u64_quo, rem_in, Int.toNat_of_nonneg, go_sem, reduceCtorEq, ↓reduceIte, Nat.reduceEqDiff, Nat.reduceAdd, Nat.reduceSub, Nat.reduceMul, Nat.reduceLT, Nat.reduceLeDiff, Nat.reduceBEq, Nat.reduceBNe, Nat.reducePow, Nat.reduceDiv, Nat.reduceMod, Int.reduceAdd, Int.reduceSub, Int.reduceMul, Int.reduceLT, Int.reduceLE, Int.reduceEq, Int.reduceNe, Int.reduceNeg, Int.reduceToNat, Int.reducePow, Int.reduceDiv, Int.reduceMod]
      refine cp_of (a6) rfl ?_
      simp (disch := omega) only [sd_t, dec_t, dec_f, i64_in, u32_in, u64_in, i64_quo, u32_quo, u64_quo, rem_in, Int.toNat_of_nonneg, go_sem, reduceCtorEq, ↓reduceIte, Nat.reduceEqDiff, Nat.reduceAdd, Nat.reduceSub, Nat.reduceMul, Nat.reduceLT, Nat.reduceLeDiff, Nat.reduceBEq, Nat.reduceBNe, Nat.reducePow, Nat.reduceDiv, Nat.reduceMod, Int.reduceAdd, Int.reduceSub, Int.reduceMul, Int.reduceLT, Int.reduceLE, Int.reduceEq, Int.reduceNe, Int.reduceNeg, Int.reduceToNat, Int.reducePow, Int.reduceDiv, Int.reduceMod]
      refine cp_of (same_fn hL mad (by omega)) rfl ?_
      simp (disch := omega) only [sd_t, dec_t, dec_f, i64_in, u32_in, u64_in, i64_quo, u32_quo, u64_quo, rem_in, Int.toNat_of_nonneg, go_sem, reduceCtorEq, ↓reduceIte, Nat.reduceEqDiff, Nat.reduceAdd, Nat.reduceSub, Nat.reduceMul, Nat.reduceLT, Nat.reduceLeDiff, Nat.reduceBEq, Nat.reduceBNe, Nat.reducePow, Nat.reduceDiv, Nat.reduceMod, Int.reduceAdd, Int.reduceSub, Int.reduceMul, Int.reduceLT, Int.reduceLE, Int.reduceEq, Int.reduceNe, Int.reduceNeg, Int.reduceToNat, Int.reducePow, Int.reduceDiv, Int.reduceMod]
      refine cp_of (same_fn hL sx (by omega)) rfl ?_
      simp (disch := omega) only [sd_t, dec_t, dec_f, i64_in, u32_in, u64_in, i64_quo, u32_quo, u64_quo, rem_in, Int.toNat_of_nonneg, go_sem, reduceCtorEq, ↓reduceIte, Nat.reduceEqDiff, Nat.reduceAdd, Nat.reduceSub, Nat.reduceMul, Nat.reduceLT, Nat.reduceLeDiff, Nat.reduceBEq, Nat.reduceBNe, Nat.reducePow, Nat.reduceDiv, Nat.reduceMod, Int.reduceAdd, Int.reduceSub, Int.reduceMul, Int.reduceLT, Int.reduceLE, Int.reduceEq, Int.reduceNe, Int.reduceNeg, Int.reduceToNat, Int.reducePow, Int.reduceDiv, Int.reduceMod]
    · rw [decide_eq_false (fun h => h3 h.1)] at s2
      simp (disch := omega) only [sd_t, dec_t, dec_f, i64_in, u32_in, u64_in, i64_quo, u32_quo, u64_quo, rem_in, Int.toNat_of_nonneg, go_sem, reduceCtorEq, ↓reduceIte, Nat.reduceEqDiff, Nat.reduceAdd, Nat.reduceSub, Nat.reduceMul, Nat.reduceLT, Nat.reduceLeDiff, Nat.reduceBEq, Nat.reduceBNe, Nat.reducePow, Nat.reduceDiv, Nat.reduceMod, Int.reduceAdd, Int.reduceSub, Int.reduceMul, Int.reduceLT, Int.reduceLE, Int.reduceEq, Int.reduceNe, Int.reduceNeg, Int.reduceToNat, Int.reducePow, Int.reduceDiv, Int.reduceMod, F_waypointlaw01_NatAlgebra, R_waypointlaw01_NatAlgebra]
      refine cp_of (awake_fn hL) rfl ?_
      simp (disch := omega) only [sd_t, dec_t, dec_f, i64_in, u32_in, u64_in, i64_quo, u32_quo, u64_quo, rem_in, Int.toNat_of_nonneg, go_sem, reduceCtorEq, ↓reduceIte, Nat.reduceEqDiff, Nat.reduceAdd, Nat.reduceSub, Nat.reduceMul, Nat.reduceLT, Nat.reduceLeDiff, Nat.reduceBEq, Nat.reduceBNe, Nat.reducePow, Nat.reduceDiv, Nat.reduceMod, Int.reduceAdd, Int.reduceSub, Int.reduceMul, Int.reduceLT, Int.reduceLE, Int.reduceEq, Int.reduceNe, Int.reduceNeg, Int.reduceToNat, Int.reducePow, Int.reduceDiv, Int.reduceMod]
      refine cp_of (s1) rfl ?_
      simp (disch := omega) only [sd_t, dec_t, dec_f, i64_in, u32_in, u64_in, i64_quo, u32_quo, u64_quo, rem_in, Int.toNat_of_nonneg, go_sem, reduceCtorEq, ↓reduceIte, Nat.reduceEqDiff, Nat.reduceAdd, Nat.reduceSub, Nat.reduceMul, Nat.reduceLT, Nat.reduceLeDiff, Nat.reduceBEq, Nat.reduceBNe, Nat.reducePow, Nat.reduceDiv, Nat.reduceMod, Int.reduceAdd, Int.reduceSub, Int.reduceMul, Int.reduceLT, Int.reduceLE, Int.reduceEq, Int.reduceNe, Int.reduceNeg, Int.reduceToNat, Int.reducePow, Int.reduceDiv, Int.reduceMod]
      refine cp_of (s2) rfl ?_
      simp (disch := omega) only [sd_t, dec_t, dec_f, i64_in, u32_in, u64_in, i64_quo, u32_quo, u64_quo, rem_in, Int.toNat_of_nonneg, go_sem, reduceCtorEq, ↓reduceIte, Nat.reduceEqDiff, Nat.reduceAdd, Nat.reduceSub, Nat.reduceMul, Nat.reduceLT, Nat.reduceLeDiff, Nat.reduceBEq, Nat.reduceBNe, Nat.reducePow, Nat.reduceDiv, Nat.reduceMod, Int.reduceAdd, Int.reduceSub, Int.reduceMul, Int.reduceLT, Int.reduceLE, Int.reduceEq, Int.reduceNe, Int.reduceNeg, Int.reduceToNat, Int.reducePow, Int.reduceDiv, Int.reduceMod]
  · rw [decide_eq_false h1] at s1
    simp (disch := omega) only [sd_t, dec_t, dec_f, i64_in, u32_in, u64_in, i64_quo, u32_quo, u64_quo, rem_in, Int.toNat_of_nonneg, go_sem, reduceCtorEq, ↓reduceIte, Nat.reduceEqDiff, Nat.reduceAdd, Nat.reduceSub, Nat.reduceMul, Nat.reduceLT, Nat.reduceLeDiff, Nat.reduceBEq, Nat.reduceBNe, Nat.reducePow, Nat.reduceDiv, Nat.reduceMod, Int.reduceAdd, Int.reduceSub, Int.reduceMul, Int.reduceLT, Int.reduceLE, Int.reduceEq, Int.reduceNe, Int.reduceNeg, Int.reduceToNat, Int.reducePow, Int.reduceDiv, Int.reduceMod, F_waypointlaw01_NatAlgebra, R_waypointlaw01_NatAlgebra]
    refine cp_of (awake_fn hL) rfl ?_
    simp (disch := omega) only [sd_t, dec_t, dec_f, i64_in, u32_in, u64_in, i64_quo, u32_quo, u64_quo, rem_in, Int.toNat_of_nonneg, go_sem, reduceCtorEq, ↓reduceIte, Nat.reduceEqDiff, Nat.reduceAdd, Nat.reduceSub, Nat.reduceMul, Nat.reduceLT, Nat.reduceLeDiff, Nat.reduceBEq, Nat.reduceBNe, Nat.reducePow, Nat.reduceDiv, Nat.reduceMod, Int.reduceAdd, Int.reduceSub, Int.reduceMul, Int.reduceLT, Int.reduceLE, Int.reduceEq, Int.reduceNe, Int.reduceNeg, Int.reduceToNat, Int.reducePow, Int.reduceDiv, Int.reduceMod]
    refine cp_of (s1) rfl ?_
    simp (disch := omega) only [sd_t, dec_t, dec_f, i64_in, u32_in, u64_in, i64_quo, u32_quo, u64_quo, rem_in, Int.toNat_of_nonneg, go_sem, reduceCtorEq, ↓reduceIte, Nat.reduceEqDiff, Nat.reduceAdd, Nat.reduceSub, Nat.reduceMul, Nat.reduceLT, Nat.reduceLeDiff, Nat.reduceBEq, Nat.reduceBNe, Nat.reducePow, Nat.reduceDiv, Nat.reduceMod, Int.reduceAdd, Int.reduceSub, Int.reduceMul, Int.reduceLT, Int.reduceLE, Int.reduceEq, Int.reduceNe, Int.reduceNeg, Int.reduceToNat, Int.reducePow, Int.reduceDiv, Int.reduceMod]
end Go.Proofs.YtmjkhbjfacfmcaaDoor.VX
end
section
namespace Go.Proofs.YtmjkhbjfacfmcaaDoor.natAlgebra
open Go.ChangeShapes Go.WideShapes Go.ChangeAt Go.RowKit
open Go.ChangeMaps (open_string shut_string)
set_option linter.unusedVariables false
set_option linter.unusedSimpArgs false
theorem own : ownKnob Tryd.prog.godebug = none := by kernel_rfl
theorem laidOut : laidOutB Tryd.prog = true := by kernel_rfl
open VX (IsRow)
theorem gTab : Tryd.prog.globalNamed "internal/strconv.uint64pow10" = some 5 := by kernel_rfl
theorem gTy : (Tryd.prog.globals[5]?).map (·.type) = some 140 := by kernel_rfl
theorem cellsA : Tryd.prog.cellsOf 140 = 20 := by kernel_rfl
theorem cellsE : Tryd.prog.cellsOf 52 = 1 := by kernel_rfl
theorem pwData : (Rows.laid_internal_strconv_uint64pow10 : DataW Unit) = Lib.tabData .u64 Lib.pow10Tab := by simp [Rows.laid_internal_strconv_uint64pow10, Lib.tabData, Lib.pow10Tab, List.range, List.range.loop]
theorem glw {W : World} (h : laidMetH Tryd.prog Rows.natAlgebraRow.laid W) : GLw W := by
  obtain ⟨g', t', cs, fuel, p, hg', ht', hvar, hd⟩ := Lib.laidMet.reads h (n := "internal/strconv.uint64pow10") (d := Rows.laid_internal_strconv_uint64pow10) (by simp [Rows.natAlgebraRow])
  obtain rfl := Option.some.inj (gTab.symm.trans hg')
  obtain rfl := Option.some.inj (gTy.symm.trans ht')
  rw [pwData] at hd
  have hcs := Lib.cells_of_tab Tryd.underlying140 Tryd.underlying52 cellsE cellsA hd
  exact ⟨by unfold Lib.TabIs; rw [hvar, ← hcs]⟩
noncomputable def laidWorld (os : Os) : World :=
  let w0 := World.holding Tryd.prog os ⟨#[.cells #[.string ⟨#[118, 97, 108, 117, 101, 32, 111, 117, 116, 32, 111, 102, 32, 114, 97, 110, 103, 101]⟩] 138, .cells #[.string ⟨#[105, 110, 118, 97, 108, 105, 100, 32, 115, 121, 110, 116, 97, 120]⟩] 138], #[], []⟩
  let put (h : Array Obj) (g : Nat) (cs : Array Value) : Array Obj := h.modify g fun
    | .cells _ t frozen => .cells cs t frozen
    | o => o
  let h0 := put w0.heap 7 #[.int .u8 0, .int .u8 1, .int .u8 28, .int .u8 2, .int .u8 29, .int .u8 14, .int .u8 24, .int .u8 3, .int .u8 30, .int .u8 22, .int .u8 20, .int .u8 15, .int .u8 25, .int .u8 17, .int .u8 4, .int .u8 8, .int .u8 31, .int .u8 27, .int .u8 13, .int .u8 23, .int .u8 21, .int .u8 19, .int .u8 16, .int .u8 7, .int .u8 26, .int .u8 12, .int .u8 18, .int .u8 6, .int .u8 11, .int .u8 5, .int .u8 10, .int .u8 9]
  let h1 := put h0 8 #[.int .u8 0, .int .u8 1, .int .u8 56, .int .u8 2, .int .u8 57, .int .u8 49, .int .u8 28, .int .u8 3, .int .u8 61, .int .u8 58, .int .u8 42, .int .u8 50, .int .u8 38, .int .u8 29, .int .u8 17, .int .u8 4, .int .u8 62, .int .u8 47, .int .u8 59, .int .u8 36, .int .u8 45, .int .u8 43, .int .u8 51, .int .u8 22, .int .u8 53, .int .u8 39, .int .u8 33, .int .u8 30, .int .u8 24, .int .u8 18, .int .u8 12, .int .u8 5, .int .u8 63, .int .u8 55, .int .u8 48, .int .u8 27, .int .u8 60, .int .u8 41, .int .u8 37, .int .u8 16, .int .u8 46, .int .u8 35, .int .u8 44, .int .u8 21, .int .u8 52, .int .u8 32, .int .u8 23, .int .u8 11, .int .u8 54, .int .u8 26, .int .u8 40, .int .u8 15, .int .u8 34, .int .u8 20, .int .u8 31, .int .u8 10, .int .u8 25, .int .u8 14, .int .u8 19, .int .u8 9, .int .u8 13, .int .u8 8, .int .u8 7, .int .u8 6]
  let h2 := put h1 5 #[.int .u64 1, .int .u64 10, .int .u64 100, .int .u64 1000, .int .u64 10000, .int .u64 100000, .int .u64 1000000, .int .u64 10000000, .int .u64 100000000, .int .u64 1000000000, .int .u64 10000000000, .int .u64 100000000000, .int .u64 1000000000000, .int .u64 10000000000000, .int .u64 100000000000000, .int .u64 1000000000000000, .int .u64 10000000000000000, .int .u64 100000000000000000, .int .u64 1000000000000000000, .int .u64 10000000000000000000]
  let h3 := put h2 4 #[.int .u8 128, .int .u8 191, .int .u8 160, .int .u8 191, .int .u8 128, .int .u8 159, .int .u8 144, .int .u8 191, .int .u8 128, .int .u8 143, .int .u8 0, .int .u8 0, .int .u8 0, .int .u8 0, .int .u8 0, .int .u8 0, .int .u8 0, .int .u8 0, .int .u8 0, .int .u8 0, .int .u8 0, .int .u8 0, .int .u8 0, .int .u8 0, .int .u8 0, .int .u8 0, .int .u8 0, .int .u8 0, .int .u8 0, .int .u8 0, .int .u8 0, .int .u8 0]
  let h4 := put h3 2 #[.iface 136 (.pointer (some ⟨(World.settled Tryd.prog os).heap.size + 0, 0, none⟩))]
  let h5 := put h4 1 #[.iface 136 (.pointer (some ⟨(World.settled Tryd.prog os).heap.size + 1, 0, none⟩))]
  let h6 := put h5 3 (Lib.firstTab.map fun z => Value.int .u8 z).toArray
  { w0 with heap := h6 }
set_option maxRecDepth 100000 in
theorem laid_met (os : Os) (args : Array Value) : laidMet Tryd.prog Rows.natAlgebraRow.laid ((laidWorld os).forCall (fun _ _ => 0) ⟨#[], args, []⟩).memory :=
  laidMet_of_run' 8 (by kernel_rfl) (by kernel_rfl)
set_option maxRecDepth 100000 in
theorem witness_row (os : Os) {H : Type} (enc : TypeId × Value → H) :
    (OpenSpec.ofChange Rows.natAlgebraSpec).preRow enc Tryd.prog Tryd.f7 Rows.natAlgebraRow.domain false Rows.natAlgebraRow.laid ((laidWorld os).forCall (fun _ _ => 0) ⟨#[], #[.slice none 0 0, .slice none 0 0, .slice none 0 0], []⟩).memory #[.slice none 0 0, .slice none 0 0, .slice none 0 0] := by
  have hw : (DataW.whole enc Tryd.prog ((laidWorld os).forCall (fun _ _ => 0) ⟨#[], #[.slice none 0 0, .slice none 0 0, .slice none 0 0], []⟩).memory Tryd.f7.params.toList Rows.natAlgebraSpec.vars false (#[.slice none 0 0, .slice none 0 0, .slice none 0 0] : Array Value).toList 8).map (fun x => (x.1, x.2.1)) =
      some ([.nil, .nil, .nil], []) := by kernel_rfl
  obtain ⟨⟨x1, x2, x3⟩, hx, hx1⟩ := Option.map_eq_some_iff.1 hw
  simp only [Prod.mk.injEq] at hx1
  obtain ⟨rfl, rfl⟩ := hx1
  exact OpenSpec.preRow_of_cond 8 hx (by kernel_rfl) (fun k hk => by cases hk) (by kernel_rfl) (laid_met os _)
set_option maxRecDepth 100000 in
set_option maxHeartbeats 2000000 in
theorem lifted (os : Os) (started : os.Started) (H : Type) (enc : TypeId × Value → H) (F : Stop.Interp) :
    ReturnsInHanded {} Tryd.checked os 7 .any ((OpenSpec.ofChange Rows.natAlgebraSpec).preRow enc Tryd.prog Tryd.f7 Rows.natAlgebraRow.domain false Rows.natAlgebraRow.laid) (((OpenSpec.ofChange Rows.natAlgebraSpec).at F).post enc Tryd.prog Tryd.f7 false true false false) := by
  refine returnsInHanded_of_row (C := Tryd.checked) (s := OpenSpec.ofChange Rows.natAlgebraSpec) own started (by kernel_rfl) Tryd.func7
    (witness_row_atRef (enc := enc) (C := Tryd.checked) false (laidWorld os) #[.slice none 0 0, .slice none 0 0, .slice none 0 0] rfl (by kernel_rfl) (by kernel_rfl) (by kernel_rfl) (witness_row os enc)) ?_
  intro W base args ds gs before hval0 hW _ _ hsz0 hL _ _
  have hsz : (DataW.weightsEach Tryd.prog (Tryd.f7.params.toList ++ Rows.natAlgebraSpec.plain.varTypes Tryd.prog) (ds ++ gs)).all (· ≤ reachBytes) = true := hsz0
  have hval : ∀ (j : Nat) t v, Tryd.f7.params[j]? = some t → args[j]? = some v → Value.okWide Tryd.prog W .any base t v := hval0
  have hW' := hW
  obtain ⟨p, q, hA0, hV, rfl, hfz, hnd⟩ := hW
  have hA : DataW.TrodAll enc Tryd.prog W 0 (fun _ => true) true Tryd.f7.params.toList args.toList ds p := hA0
  rw [Tryd.params7] at hA hval hsz
  obtain ⟨v0, vs0, d0, ds0, p0, q0, hargs, rfl, rfl, h0, r0⟩ := trodAll_cons hA
  obtain ⟨v1, vs1, d1, ds1, p1, q1, rfl, rfl, rfl, h1, r1⟩ := trodAll_cons r0
  obtain ⟨v2, vs2, d2, ds2, p2, q2, rfl, rfl, rfl, h2, r2⟩ := trodAll_cons r1
  obtain ⟨rfl, rfl, rfl⟩ := trodAll_nil r2
  obtain rfl : args = #[v0, v1, v2] := by cases args; simp_all
  obtain ⟨rfl, rfl⟩ := trodVars_none hV
  obtain ⟨a0, len0, cap0, rfl⟩ := okWide_slice Tryd.underlying22 (hval 0 22 v0 rfl rfl)
  have k0 := h0
  have lt0 : ∀ x ∈ p0, x.block < W.heap.size := by obtain ⟨m, hm⟩ := k0; exact DataW.trod_lt m _ _ _ hm
  obtain ⟨z0, w0⟩ : ∃ zs, IsRow .u32 W a0 len0 cap0 zs := by
    obtain ⟨fuel, hf⟩ := h0
    rcases open_ints Tryd.underlying22 Tryd.underlying62 (by kernel_rfl) hf with ⟨hcs, _⟩ | ⟨x, l, c, zs, hcs, _, hl, hm, hz, _, hcell, hwz⟩
    · simp [Value.cells] at hcs
      obtain ⟨rfl, rfl, rfl⟩ := hcs
      exact ⟨[], .inl ⟨rfl, rfl, rfl, rfl⟩⟩
    · simp [Value.cells] at hcs
      obtain ⟨rfl, rfl, rfl⟩ := hcs
      exact ⟨zs, .inr ⟨_, rfl, hl, hm, by simpa using hz, hcell, hwz⟩⟩
  have y0 : len0 * 4 ≤ 140737488351232 := Go.Proofs.YtmjkhbjfacfmcaaDoorW.PrintWords.sized_ints hsz (j := 0) (t := 22) rfl rfl Tryd.underlying22 Tryd.underlying62 (by kernel_rfl) (by kernel_rfl) h0
  obtain ⟨a1, len1, cap1, rfl⟩ := okWide_slice Tryd.underlying22 (hval 1 22 v1 rfl rfl)
  have k1 := h1
  have lt1 : ∀ x ∈ p1, x.block < W.heap.size := by obtain ⟨m, hm⟩ := k1; exact DataW.trod_lt m _ _ _ hm
  obtain ⟨z1, w1⟩ : ∃ zs, IsRow .u32 W a1 len1 cap1 zs := by
    obtain ⟨fuel, hf⟩ := h1
    rcases open_ints Tryd.underlying22 Tryd.underlying62 (by kernel_rfl) hf with ⟨hcs, _⟩ | ⟨x, l, c, zs, hcs, _, hl, hm, hz, _, hcell, hwz⟩
    · simp [Value.cells] at hcs
      obtain ⟨rfl, rfl, rfl⟩ := hcs
      exact ⟨[], .inl ⟨rfl, rfl, rfl, rfl⟩⟩
    · simp [Value.cells] at hcs
      obtain ⟨rfl, rfl, rfl⟩ := hcs
      exact ⟨zs, .inr ⟨_, rfl, hl, hm, by simpa using hz, hcell, hwz⟩⟩
  have y1 : len1 * 4 ≤ 140737488351232 := Go.Proofs.YtmjkhbjfacfmcaaDoorW.PrintWords.sized_ints hsz (j := 1) (t := 22) rfl rfl Tryd.underlying22 Tryd.underlying62 (by kernel_rfl) (by kernel_rfl) h1
  obtain ⟨a2, len2, cap2, rfl⟩ := okWide_slice Tryd.underlying22 (hval 2 22 v2 rfl rfl)
  have k2 := h2
  have lt2 : ∀ x ∈ p2, x.block < W.heap.size := by obtain ⟨m, hm⟩ := k2; exact DataW.trod_lt m _ _ _ hm
  obtain ⟨z2, w2⟩ : ∃ zs, IsRow .u32 W a2 len2 cap2 zs := by
    obtain ⟨fuel, hf⟩ := h2
    rcases open_ints Tryd.underlying22 Tryd.underlying62 (by kernel_rfl) hf with ⟨hcs, _⟩ | ⟨x, l, c, zs, hcs, _, hl, hm, hz, _, hcell, hwz⟩
    · simp [Value.cells] at hcs
      obtain ⟨rfl, rfl, rfl⟩ := hcs
      exact ⟨[], .inl ⟨rfl, rfl, rfl, rfl⟩⟩
    · simp [Value.cells] at hcs
      obtain ⟨rfl, rfl, rfl⟩ := hcs
      exact ⟨zs, .inr ⟨_, rfl, hl, hm, by simpa using hz, hcell, hwz⟩⟩
  have y2 : len2 * 4 ≤ 140737488351232 := Go.Proofs.YtmjkhbjfacfmcaaDoorW.PrintWords.sized_ints hsz (j := 2) (t := 22) rfl rfl Tryd.underlying22 Tryd.underlying62 (by kernel_rfl) (by kernel_rfl) h2
  clear hA0 hval0 hsz0 hsz
  refine (VX.fn_walk (VX.NatAlgebra_fn (VX.libS (glw hL)) (z0.take len0) (z1.take len1) (z2.take len2) (VX.Wf.take (VX.IsRow.wf w0) _) (VX.Wf.take (VX.IsRow.wf w1) _) (VX.Wf.take (VX.IsRow.wf w2) _)) [(.slice a0 len0 cap0), (.slice a1 len1 cap1), (.slice a2 len2 cap2)] rfl (VX.reps_cons (VX.IsRow.rep w0) (VX.reps_cons (VX.IsRow.rep w1) (VX.reps_cons (VX.IsRow.rep w2) VX.reps_nil)))).mono fun e W' ⟨⟨v, ok, he, hv⟩, bel⟩ => ?_
  subst he
  cases hv
  exact ⟨_, rfl, _, _, _, [], _, [], hW', trodAll_mk1 (shut_bool Tryd.underlying4 _), (trodAll_cons_mk (Below.trod laidOut (by kernel_rfl) (of_decide_eq_true (by kernel_rfl)) k0 bel lt0) (trodAll_cons_mk (Below.trod laidOut (by kernel_rfl) (of_decide_eq_true (by kernel_rfl)) k1 bel lt1) (trodAll_cons_mk (Below.trod laidOut (by kernel_rfl) (of_decide_eq_true (by kernel_rfl)) k2 bel lt2) trodAll_mk0))), rfl, bel.frame _, fun h => by cases h⟩
theorem said : Rows.NatAlgebraSaid :=
  OpenClaim.holds_of_cond 7 Tryd.f7 rfl rfl rfl rfl rfl rfl rfl ⟨rfl, rfl, rfl, rfl, rfl⟩ rfl rfl rfl rfl rfl (by kernel_rfl) Tryd.func7 (by kernel_rfl)
    (of_decide_eq_true (by kernel_rfl)) (by unfold Func.isWrapper; first | (rw [if_pos (by decide +kernel)]; kernel_rfl) | (rw [if_neg (by decide +kernel)]; exact ⟨rfl, rfl⟩))
    (fun os started H enc _ F => by rw [OpenClaim.pre_eq_preRow]; exact lifted os started H enc F)
theorem plain (f : FuncId) (fn : Func) (hf : Tryd.pinned.checked.prog.funcNamed "waypoint/waypointlaw01.NatAlgebra" = some f) (hfn : Tryd.pinned.checked.prog.funcs[f]? = some fn) :
    true = Tryd.pinned.checked.prog.looks [] ∧ ∀ (j : Nat) t, fn.params[j]? = some t → Tryd.pinned.checked.prog.wantsStandIn t = false := by
  obtain rfl : f = 7 := Option.some.inj ((show Tryd.prog.funcNamed "waypoint/waypointlaw01.NatAlgebra" = some 7 by kernel_rfl).symm.trans hf) |>.symm
  obtain rfl : fn = Tryd.f7 := (Option.some.inj (Tryd.func7.symm.trans hfn)).symm
  refine ⟨by kernel_rfl, fun j t ht => ?_⟩
  rw [Tryd.params7] at ht
  have hm := Array.mem_of_getElem? ht
  simp only [List.mem_toArray, List.mem_cons, List.mem_nil_iff, or_false] at hm
  rcases hm with rfl | rfl | rfl
  · exact (show Tryd.prog.wantsStandIn 22 = false by kernel_rfl)
  · exact (show Tryd.prog.wantsStandIn 22 = false by kernel_rfl)
  · exact (show Tryd.prog.wantsStandIn 22 = false by kernel_rfl)
theorem card : Rows.NatAlgebraCardSaid :=
  Claim7.holds_tied_plain_at .later [] _ _ _ _ said (fun _ h => by cases h) (by kernel_rfl) (fun _ h => by cases h) natAlgebra_row_tie rfl ⟨rfl, rfl⟩ (by kernel_rfl) rfl plain (by kernel_rfl)
end Go.Proofs.YtmjkhbjfacfmcaaDoor.natAlgebra
namespace Go.Proofs.YtmjkhbjfacfmcaaDoor
theorem natAlgebra_card : Rows.NatAlgebraCardSaid := natAlgebra.card
end Go.Proofs.YtmjkhbjfacfmcaaDoor
end
