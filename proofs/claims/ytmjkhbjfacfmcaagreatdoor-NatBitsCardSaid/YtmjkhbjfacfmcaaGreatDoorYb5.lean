/- Of, Uint64, Bits and IsZero return the specified results for all numbers of 64 bits, and for numbers of up to 12 digits of 32 bits. This is part 5 of the proof: texts joined in order (R0 R3 Ge K0 Lib Base NatX X0 K1 R1 R2 R6 NK KBits LawNatBits). Conditions: each theorem's own. -/
import Derived.Test.YtmjkhbjfacfmcaaGreatDoorYb4
import Derived.Test.YtmjkhbjfacfmcaaGreatDoorProg
import Derived.Shelf.Strings.Builder1
import Derived.Shelf.Strings.Builder2
import Derived.Shelf.Strings.Trim
import Derived.Shelf.Small.Utf8
import Derived.Shelf.Small.Bits
import Derived.Shelf.Small.Strs
import Derived.Shelf.Strings.BuilderF
import Derived.Shelf.Strings.BuilderK
import Derived.Shelf.Strings.Builder2Cap
import Derived.Shelf.Strconv.Atoi
import Derived.Shelf.Strconv.Itoa0
import Derived.Shelf.Strconv.Itoa1
import Derived.Shelf.LaysM
import Derived.Shelf.Strconv.Itoa2
import Derived.Shelf.Strconv.Itoa3
import Derived.Shelf.Strconv.AtoiErrFast
import Derived.Shelf.Strconv.ParseIntEmpty
import Derived.Shelf.Strconv.AtoiFail
import Derived.Shelf.Strconv.Clone
import Derived.Shelf.Strconv.SyntaxError
import Derived.Shelf.LaysC
import Derived.Shelf.Strconv.ToError
import Derived.Shelf.Strconv.Lower
import Derived.Shelf.Strconv.ParseUint10
import Derived.Shelf.Strconv.ParseUint10Empty
import Derived.Shelf.Strconv.ParseUint10Any
import Derived.Shelf.Strconv.ParseInt10
import Derived.Shelf.Strconv.AtoiLong
import Derived.Shelf.Strconv.AtoiInnerAll
import Derived.Shelf.Strconv.RangeError
import Derived.Shelf.Strconv.ToErrorRange
import Derived.Shelf.Strconv.AtoiAll
import Derived.Shelf.Strconv.ParseUintEmpty
import Derived.Shelf.Strconv.ParseUint10b64
import Derived.Shelf.Strconv.ParseUint10b32
import Derived.Shelf.Strconv.ParseUint10b16
import Derived.Shelf.Strconv.ParseUint10b8
import Derived.Shelf.Strings.Search1
import Derived.Shelf.Strings.Prefix
import Derived.Shelf.Unicode.Decode
import Derived.Shelf.Strings.Runes
import Derived.Shelf.Strings.AsciiSet
import Derived.Shelf.Bits.Mul64
import Derived.Shelf.Strings.Repeat
import Derived.Shelf.Unicode.DecodeSlow
import Derived.Shelf.Unicode.DecodeAny
import Derived.Shelf.Unicode.DecodeLast
import Derived.Shelf.Strings.BuilderCap
import Derived.Shelf.Strings.SlTrimAscii
import Derived.Lib.AppendIntMem
import Derived.Lib.AtoiErrMem
import Derived.Laws.BitsAllLaws
import Derived.Deep.QuietTactic
import Derived.BigQuiet
import Derived.Test.YtmjkhbjfacfmcaaGreatDoorCards
import Derived.Test.YtmjkhbjfacfmcaaGreatDoorTie
import Derived.WalkKit
import Derived.ProofKit
import Derived.OpenShut
import Derived.ShutString
import Derived.ChangeOld
import Derived.Below
import Derived.SizedLaws
import Derived.Deep.DeepHandedRow
import Derived.Deep.DeepWitnessRowRef
import Derived.Lib.LaidTab
import Derived.Lib.LaidU8
section
namespace Go.Proofs.YtmjkhbjfacfmcaaGreatDoor.VX
open Go Go.RowKit Go.Proofs.YtmjkhbjfacfmcaaGreatDoor.NM Go.Proofs.YtmjkhbjfacfmcaaGreatDoor.NT Go.Proofs.YtmjkhbjfacfmcaaGreatDoor.RV IntWalk
set_option linter.unusedVariables false
set_option linter.unusedSimpArgs false
variable {X : Ctx}
theorem nums_snoc (k : IntKind) (l : List Int) (x : Int) : nums k l ++ [[.sc (.int k x)]] = nums k (l ++ [x]) := by simp [nums]
theorem nums_one (k : IntKind) (x : Int) : [[V.sc (.int k x)]] = nums k [x] := by simp [nums]
abbrev i64s (l : List Int) : V := .sl 1 (nums .i64 l)
theorem without_l0 (l : List Int) (hl : l.length ≤ 1000000000000) {Q : Ex → St → Prop} : ∀ (j : Nat) (S : St), j ≤ l.length → En S [(0, .v (i64s (l.take j)))] → Hp S [] →
    (∀ S' (i : Nat), i ≤ l.length → En S' [(0, .v (i64s (l.take i)))] → S'.heap 100 = none → strip (l.take j) = l.take i → Q (.x 0) S') → wpC X F_waypointref01_without_l0 Q S := by
  intro j
  induction j with
  | zero =>
    intro S hj he hh hQ
    simp only [En, Hp, and_true] at he hh
    refine wpC_round rfl ?_
    simp (disch := omega) only [sd_t, dec_t, dec_f, i64_in, u32_in, u64_in, i64_quo, u32_quo, u64_quo, rem_in, Int.toNat_of_nonneg, go_sem, reduceCtorEq, ↓reduceIte, Nat.reduceEqDiff, Nat.reduceAdd, Nat.reduceSub, Nat.reduceMul, Nat.reduceLT, Nat.reduceLeDiff, Nat.reduceBEq, Nat.reduceBNe, Nat.reducePow, Nat.reduceDiv, Nat.reduceMod, Int.reduceAdd, Int.reduceSub, Int.reduceMul, Int.reduceLT, Int.reduceLE, Int.reduceEq, Int.reduceNe, Int.reduceNeg, Int.reduceToNat, Int.reducePow, Int.reduceDiv, Int.reduceMod, F_waypointref01_without_b0, he, hh, List.take_zero, List.length_nil]
    refine hQ _ 0 (by omega) ?_ ?_ rfl <;> simp only [go_sem, reduceCtorEq, ↓reduceIte, Nat.reduceEqDiff, Nat.reduceAdd, Nat.reduceSub, Nat.reduceMul, Nat.reduceLT, Nat.reduceLeDiff, Nat.reduceBEq, Nat.reduceBNe, Nat.reducePow, Nat.reduceDiv, Nat.reduceMod, Int.reduceAdd, Int.reduceSub, Int.reduceMul, Int.reduceLT, Int.reduceLE, Int.reduceEq, Int.reduceNe, Int.reduceNeg, Int.reduceToNat, Int.reducePow, Int.reduceDiv, Int.reduceMod, he, hh, List.take_zero]
  | succ j ih =>
    intro S hj he hh hQ
    have hs := strip_take_succ l j (by omega)
    have hlen : (l.take (j + 1)).length = j + 1 := by rw [List.length_take]; omega
    have hrd : rd (l.take (j + 1)) (j : Int) = rd l (j : Int) := by rw [rd_nat _ _ (by omega), rd_nat _ _ (by omega), List.getElem_take]
    simp only [En, Hp, and_true] at he hh
    refine wpC_round rfl ?_
    have htt : (l.take (j + 1)).take j = l.take j := by rw [List.take_take, Nat.min_eq_left (by omega)]
    simp (disch := omega) only [sd_t, dec_t, dec_f, i64_in, u32_in, u64_in, i64_quo, u32_quo, u64_quo, rem_in, Int.toNat_of_nonneg, go_sem, reduceCtorEq, ↓reduceIte, Nat.reduceEqDiff, Nat.reduceAdd, Nat.reduceSub, Nat.reduceMul, Nat.reduceLT, Nat.reduceLeDiff, Nat.reduceBEq, Nat.reduceBNe, Nat.reducePow, Nat.reduceDiv, Nat.reduceMod, Int.reduceAdd, Int.reduceSub, Int.reduceMul, Int.reduceLT, Int.reduceLE, Int.reduceEq, Int.reduceNe, Int.reduceNeg, Int.reduceToNat, Int.reducePow, Int.reduceDiv, Int.reduceMod, F_waypointref01_without_b0, he, hh, hlen, hrd, htt]
    refine ⟨fun hz => ?_, fun hz => ?_⟩
    · rw [if_pos hz] at hs
      refine ih _ (by omega) ?_ ?_ fun S' i hi g0 g1 gs => hQ S' i hi g0 g1 (hs.trans gs) <;> simp only [go_sem, reduceCtorEq, ↓reduceIte, Nat.reduceEqDiff, Nat.reduceAdd, Nat.reduceSub, Nat.reduceMul, Nat.reduceLT, Nat.reduceLeDiff, Nat.reduceBEq, Nat.reduceBNe, Nat.reducePow, Nat.reduceDiv, Nat.reduceMod, Int.reduceAdd, Int.reduceSub, Int.reduceMul, Int.reduceLT, Int.reduceLE, Int.reduceEq, Int.reduceNe, Int.reduceNeg, Int.reduceToNat, Int.reducePow, Int.reduceDiv, Int.reduceMod, he, hh]
    · rw [if_neg hz] at hs
      refine hQ _ (j + 1) hj ?_ ?_ hs <;> simp only [go_sem, reduceCtorEq, ↓reduceIte, Nat.reduceEqDiff, Nat.reduceAdd, Nat.reduceSub, Nat.reduceMul, Nat.reduceLT, Nat.reduceLeDiff, Nat.reduceBEq, Nat.reduceBNe, Nat.reducePow, Nat.reduceDiv, Nat.reduceMod, Int.reduceAdd, Int.reduceSub, Int.reduceMul, Int.reduceLT, Int.reduceLE, Int.reduceEq, Int.reduceNe, Int.reduceNeg, Int.reduceToNat, Int.reducePow, Int.reduceDiv, Int.reduceMod, he, hh]
theorem without_fn (hP : X.P = Tryz.prog) (l : List Int) (hl : l.length ≤ 1000000000000) : Fn X 38 [i64s l] (i64s (strip l)) := by
  refine W_waypointref01_without hP rfl ?_
  simp (disch := omega) only [sd_t, dec_t, dec_f, i64_in, u32_in, u64_in, i64_quo, u32_quo, u64_quo, rem_in, Int.toNat_of_nonneg, go_sem, reduceCtorEq, ↓reduceIte, Nat.reduceEqDiff, Nat.reduceAdd, Nat.reduceSub, Nat.reduceMul, Nat.reduceLT, Nat.reduceLeDiff, Nat.reduceBEq, Nat.reduceBNe, Nat.reducePow, Nat.reduceDiv, Nat.reduceMod, Int.reduceAdd, Int.reduceSub, Int.reduceMul, Int.reduceLT, Int.reduceLE, Int.reduceEq, Int.reduceNe, Int.reduceNeg, Int.reduceToNat, Int.reducePow, Int.reduceDiv, Int.reduceMod, F_waypointref01_without]
  refine without_l0 l hl l.length _ (by omega) ?_ ?_ fun S i hi he hh hs => ?_
  · simp only [go_sem, reduceCtorEq, ↓reduceIte, Nat.reduceEqDiff, Nat.reduceAdd, Nat.reduceSub, Nat.reduceMul, Nat.reduceLT, Nat.reduceLeDiff, Nat.reduceBEq, Nat.reduceBNe, Nat.reducePow, Nat.reduceDiv, Nat.reduceMod, Int.reduceAdd, Int.reduceSub, Int.reduceMul, Int.reduceLT, Int.reduceLE, Int.reduceEq, Int.reduceNe, Int.reduceNeg, Int.reduceToNat, Int.reducePow, Int.reduceDiv, Int.reduceMod, List.take_length]
  · simp only [go_sem, reduceCtorEq, ↓reduceIte, Nat.reduceEqDiff, Nat.reduceAdd, Nat.reduceSub, Nat.reduceMul, Nat.reduceLT, Nat.reduceLeDiff, Nat.reduceBEq, Nat.reduceBNe, Nat.reducePow, Nat.reduceDiv, Nat.reduceMod, Int.reduceAdd, Int.reduceSub, Int.reduceMul, Int.reduceLT, Int.reduceLE, Int.reduceEq, Int.reduceNe, Int.reduceNeg, Int.reduceToNat, Int.reducePow, Int.reduceDiv, Int.reduceMod]
  rw [List.take_length] at hs
  simp only [En, Hp, and_true] at he
  have hlen : (l.take i).length = i := by rw [List.length_take]; omega
  have htt : (l.take i).take i = l.take i := by rw [List.take_take, Nat.min_self]
  simp (disch := omega) only [sd_t, dec_t, dec_f, i64_in, u32_in, u64_in, i64_quo, u32_quo, u64_quo, rem_in, Int.toNat_of_nonneg, go_sem, reduceCtorEq, ↓reduceIte, Nat.reduceEqDiff, Nat.reduceAdd, Nat.reduceSub, Nat.reduceMul, Nat.reduceLT, Nat.reduceLeDiff, Nat.reduceBEq, Nat.reduceBNe, Nat.reducePow, Nat.reduceDiv, Nat.reduceMod, Int.reduceAdd, Int.reduceSub, Int.reduceMul, Int.reduceLT, Int.reduceLE, Int.reduceEq, Int.reduceNe, Int.reduceNeg, Int.reduceToNat, Int.reducePow, Int.reduceDiv, Int.reduceMod, F_waypointref01_without_k0, R_waypointref01_without, he, hh, hs, hlen, htt]
theorem without_nat (hP : X.P = Tryz.prog) {l : List Int} {n : Nat} (hl : l.length ≤ 1000000000000) (hd : Dig 1000000 l) (hn : vl 1000000 l = n) : Fn X 38 [i64s l] (i64s (dg 1000000 n)) := by
  have h := without_fn hP l hl
  rwa [strip6 hd, hn, Int.toNat_natCast] at h
theorem carried_l0 (l : List Int) (hl : Big l) (hn : l.length ≤ 100000000000) {Q : Ex → St → Prop} (hQ : ∀ S o, Dig 1000000 o → o.length ≤ 1000000000000 → vl 1000000 o = vl 1000000 l → En S [(3, .os 100 0 o.length)] → Hp S [(100, .p 3 1 (nums .i64 o))] → Q (.x 0) S) :
    ∀ (m i : Nat) (c : Int) (o : List Int) (S : St), l.length + 3 - i = m → 0 ≤ c → c ≤ 10000000000000 → o.length = i → Dig 1000000 o → (l.length ≤ i → i + (dg 1000000 c.toNat).length ≤ l.length + 3) → Hold (vl 1000000 o + 1000000 ^ i * c = vl 1000000 (l.take i)) →
    En S [(0, .v (i64s l)), (3, .os 100 0 i), (4, i64 c), (5, i64 i)] → Hp S [(100, .p 3 1 (nums .i64 o))] → wpC X F_waypointref01_carried_l0 Q S := by
  intro m
  induction m using Nat.strongRecOn with
  | _ m ih =>
    intro i c o S hi c0 c1 ho hd hdl hv he hh
    simp only [En, Hp, and_true] at he hh
    refine wpC_round rfl ?_
    have hx := hl.rd i
    have hlen' : ∀ x, (o ++ [x]).length = i + 1 := by intro x; simp [ho]
    by_cases hin : i < l.length
    · have e1 : (c + rd l i) = (c + rd l i) % 1000000 + 1000000 * ((c + rd l i) / 1000000) := by omega
      simp (disch := omega) only [sd_t, dec_t, dec_f, i64_in, u32_in, u64_in, i64_quo, u32_quo, u64_quo, rem_in, Int.toNat_of_nonneg, go_sem, reduceCtorEq, ↓reduceIte, Nat.reduceEqDiff, Nat.reduceAdd, Nat.reduceSub, Nat.reduceMul, Nat.reduceLT, Nat.reduceLeDiff, Nat.reduceBEq, Nat.reduceBNe, Nat.reducePow, Nat.reduceDiv, Nat.reduceMod, Int.reduceAdd, Int.reduceSub, Int.reduceMul, Int.reduceLT, Int.reduceLE, Int.reduceEq, Int.reduceNe, Int.reduceNeg, Int.reduceToNat, Int.reducePow, Int.reduceDiv, Int.reduceMod, F_waypointref01_carried_b0, he, hh, ho, hlen', List.take_of_length_le, nums_snoc]
      refine ih _ ?_ (i + 1) ((c + rd l i) / 1000000) (o ++ [(c + rd l i) % 1000000]) _ rfl (by omega) (by omega) (hlen' _) (Dig.append hd (Dig.cons (by omega) (by omega) (Dig.nil _))) ?_ ?_ ?_ ?_
      · omega
      · intro h; have := dg6_len (c := (c + rd l i) / 1000000) (by omega); omega
      · unfold Hold at hv ⊢
        rw [vl_snoc, ho, Int.pow_succ, vl_take_succ, ← hv, Int.add_assoc, alg_carry e1, Int.mul_add, Int.add_assoc]
      · simp only [go_sem, reduceCtorEq, ↓reduceIte, Nat.reduceEqDiff, Nat.reduceAdd, Nat.reduceSub, Nat.reduceMul, Nat.reduceLT, Nat.reduceLeDiff, Nat.reduceBEq, Nat.reduceBNe, Nat.reducePow, Nat.reduceDiv, Nat.reduceMod, Int.reduceAdd, Int.reduceSub, Int.reduceMul, Int.reduceLT, Int.reduceLE, Int.reduceEq, Int.reduceNe, Int.reduceNeg, Int.reduceToNat, Int.reducePow, Int.reduceDiv, Int.reduceMod, he, hh]
      · simp only [go_sem, reduceCtorEq, ↓reduceIte, Nat.reduceEqDiff, Nat.reduceAdd, Nat.reduceSub, Nat.reduceMul, Nat.reduceLT, Nat.reduceLeDiff, Nat.reduceBEq, Nat.reduceBNe, Nat.reducePow, Nat.reduceDiv, Nat.reduceMod, Int.reduceAdd, Int.reduceSub, Int.reduceMul, Int.reduceLT, Int.reduceLE, Int.reduceEq, Int.reduceNe, Int.reduceNeg, Int.reduceToNat, Int.reducePow, Int.reduceDiv, Int.reduceMod, he, hh]
    · have hdl := hdl (by omega)
      by_cases h0 : 0 < c
      · have hdg : (dg 1000000 c.toNat).length = (dg 1000000 (c.toNat / 1000000)).length + 1 := by rw [dg_pos (by omega) (by omega), List.length_cons]
        have e2 : c.toNat / 1000000 = (c / 1000000).toNat := by omega
        rw [e2] at hdg
        have e1 : c = c % 1000000 + 1000000 * (c / 1000000) := by omega
        simp (disch := omega) only [sd_t, dec_t, dec_f, i64_in, u32_in, u64_in, i64_quo, u32_quo, u64_quo, rem_in, Int.toNat_of_nonneg, go_sem, reduceCtorEq, ↓reduceIte, Nat.reduceEqDiff, Nat.reduceAdd, Nat.reduceSub, Nat.reduceMul, Nat.reduceLT, Nat.reduceLeDiff, Nat.reduceBEq, Nat.reduceBNe, Nat.reducePow, Nat.reduceDiv, Nat.reduceMod, Int.reduceAdd, Int.reduceSub, Int.reduceMul, Int.reduceLT, Int.reduceLE, Int.reduceEq, Int.reduceNe, Int.reduceNeg, Int.reduceToNat, Int.reducePow, Int.reduceDiv, Int.reduceMod, F_waypointref01_carried_b0, he, hh, ho, hlen', List.take_of_length_le, nums_snoc]
        refine ih _ ?_ (i + 1) (c / 1000000) (o ++ [c % 1000000]) _ rfl (by omega) (by omega) (hlen' _) (Dig.append hd (Dig.cons (by omega) (by omega) (Dig.nil _))) ?_ ?_ ?_ ?_
        · omega
        · intro h; omega
        · unfold Hold at hv ⊢
          rw [vl_take_all _ _ _ (by omega)] at hv
          rw [vl_snoc, ho, Int.pow_succ, vl_take_all _ _ _ (by omega), ← hv, Int.add_assoc, alg_carry e1]
        · simp only [go_sem, reduceCtorEq, ↓reduceIte, Nat.reduceEqDiff, Nat.reduceAdd, Nat.reduceSub, Nat.reduceMul, Nat.reduceLT, Nat.reduceLeDiff, Nat.reduceBEq, Nat.reduceBNe, Nat.reducePow, Nat.reduceDiv, Nat.reduceMod, Int.reduceAdd, Int.reduceSub, Int.reduceMul, Int.reduceLT, Int.reduceLE, Int.reduceEq, Int.reduceNe, Int.reduceNeg, Int.reduceToNat, Int.reducePow, Int.reduceDiv, Int.reduceMod, he, hh]
        · simp only [go_sem, reduceCtorEq, ↓reduceIte, Nat.reduceEqDiff, Nat.reduceAdd, Nat.reduceSub, Nat.reduceMul, Nat.reduceLT, Nat.reduceLeDiff, Nat.reduceBEq, Nat.reduceBNe, Nat.reducePow, Nat.reduceDiv, Nat.reduceMod, Int.reduceAdd, Int.reduceSub, Int.reduceMul, Int.reduceLT, Int.reduceLE, Int.reduceEq, Int.reduceNe, Int.reduceNeg, Int.reduceToNat, Int.reducePow, Int.reduceDiv, Int.reduceMod, he, hh]
      · obtain rfl : c = 0 := by omega
        unfold Hold at hv
        rw [vl_take_all _ _ _ (by omega), Int.mul_zero, Int.add_zero] at hv
        simp (disch := omega) only [sd_t, dec_t, dec_f, i64_in, u32_in, u64_in, i64_quo, u32_quo, u64_quo, rem_in, Int.toNat_of_nonneg, go_sem, reduceCtorEq, ↓reduceIte, Nat.reduceEqDiff, Nat.reduceAdd, Nat.reduceSub, Nat.reduceMul, Nat.reduceLT, Nat.reduceLeDiff, Nat.reduceBEq, Nat.reduceBNe, Nat.reducePow, Nat.reduceDiv, Nat.reduceMod, Int.reduceAdd, Int.reduceSub, Int.reduceMul, Int.reduceLT, Int.reduceLE, Int.reduceEq, Int.reduceNe, Int.reduceNeg, Int.reduceToNat, Int.reducePow, Int.reduceDiv, Int.reduceMod, F_waypointref01_carried_b0, he, hh, ho, hlen']
        refine hQ _ o hd (by omega) hv ?_ ?_ <;> simp only [go_sem, reduceCtorEq, ↓reduceIte, Nat.reduceEqDiff, Nat.reduceAdd, Nat.reduceSub, Nat.reduceMul, Nat.reduceLT, Nat.reduceLeDiff, Nat.reduceBEq, Nat.reduceBNe, Nat.reducePow, Nat.reduceDiv, Nat.reduceMod, Int.reduceAdd, Int.reduceSub, Int.reduceMul, Int.reduceLT, Int.reduceLE, Int.reduceEq, Int.reduceNe, Int.reduceNeg, Int.reduceToNat, Int.reducePow, Int.reduceDiv, Int.reduceMod, he, hh, ho]
theorem carried_fn (hP : X.P = Tryz.prog) {l : List Int} {n : Nat} (hl : Big l) (hn : l.length ≤ 100000000000) (hv : vl 1000000 l = n) : Fn X 45 [i64s l] (i64s (dg 1000000 n)) := by
  refine W_waypointref01_carried hP rfl ?_
  simp (disch := omega) only [sd_t, dec_t, dec_f, i64_in, u32_in, u64_in, i64_quo, u32_quo, u64_quo, rem_in, Int.toNat_of_nonneg, go_sem, reduceCtorEq, ↓reduceIte, Nat.reduceEqDiff, Nat.reduceAdd, Nat.reduceSub, Nat.reduceMul, Nat.reduceLT, Nat.reduceLeDiff, Nat.reduceBEq, Nat.reduceBNe, Nat.reducePow, Nat.reduceDiv, Nat.reduceMod, Int.reduceAdd, Int.reduceSub, Int.reduceMul, Int.reduceLT, Int.reduceLE, Int.reduceEq, Int.reduceNe, Int.reduceNeg, Int.reduceToNat, Int.reducePow, Int.reduceDiv, Int.reduceMod, F_waypointref01_carried]
  refine carried_l0 l hl hn ?_ _ 0 0 [] _ rfl (by omega) (by omega) rfl (Dig.nil _) ?_ ?_ ?_ ?_
  · intro S o hd ho hv2 he hh
    simp only [En, Hp, and_true] at he hh
    simp (disch := omega) only [sd_t, dec_t, dec_f, i64_in, u32_in, u64_in, i64_quo, u32_quo, u64_quo, rem_in, Int.toNat_of_nonneg, go_sem, reduceCtorEq, ↓reduceIte, Nat.reduceEqDiff, Nat.reduceAdd, Nat.reduceSub, Nat.reduceMul, Nat.reduceLT, Nat.reduceLeDiff, Nat.reduceBEq, Nat.reduceBNe, Nat.reducePow, Nat.reduceDiv, Nat.reduceMod, Int.reduceAdd, Int.reduceSub, Int.reduceMul, Int.reduceLT, Int.reduceLE, Int.reduceEq, Int.reduceNe, Int.reduceNeg, Int.reduceToNat, Int.reducePow, Int.reduceDiv, Int.reduceMod, F_waypointref01_carried_k0, R_waypointref01_carried, he, hh]
    refine cp_of (without_nat hP ho hd (hv2.trans hv)) (by (simp [List.take_of_length_le])) ?_
    simp (disch := omega) only [sd_t, dec_t, dec_f, i64_in, u32_in, u64_in, i64_quo, u32_quo, u64_quo, rem_in, Int.toNat_of_nonneg, go_sem, reduceCtorEq, ↓reduceIte, Nat.reduceEqDiff, Nat.reduceAdd, Nat.reduceSub, Nat.reduceMul, Nat.reduceLT, Nat.reduceLeDiff, Nat.reduceBEq, Nat.reduceBNe, Nat.reducePow, Nat.reduceDiv, Nat.reduceMod, Int.reduceAdd, Int.reduceSub, Int.reduceMul, Int.reduceLT, Int.reduceLE, Int.reduceEq, Int.reduceNe, Int.reduceNeg, Int.reduceToNat, Int.reducePow, Int.reduceDiv, Int.reduceMod, he, hh, List.take_of_length_le]
  · intro h; simp [dg_zero]
  · unfold Hold; simp [vl]
  · simp only [go_sem, reduceCtorEq, ↓reduceIte, Nat.reduceEqDiff, Nat.reduceAdd, Nat.reduceSub, Nat.reduceMul, Nat.reduceLT, Nat.reduceLeDiff, Nat.reduceBEq, Nat.reduceBNe, Nat.reducePow, Nat.reduceDiv, Nat.reduceMod, Int.reduceAdd, Int.reduceSub, Int.reduceMul, Int.reduceLT, Int.reduceLE, Int.reduceEq, Int.reduceNe, Int.reduceNeg, Int.reduceToNat, Int.reducePow, Int.reduceDiv, Int.reduceMod]
  · simp only [go_sem, reduceCtorEq, ↓reduceIte, Nat.reduceEqDiff, Nat.reduceAdd, Nat.reduceSub, Nat.reduceMul, Nat.reduceLT, Nat.reduceLeDiff, Nat.reduceBEq, Nat.reduceBNe, Nat.reducePow, Nat.reduceDiv, Nat.reduceMod, Int.reduceAdd, Int.reduceSub, Int.reduceMul, Int.reduceLT, Int.reduceLE, Int.reduceEq, Int.reduceNe, Int.reduceNeg, Int.reduceToNat, Int.reducePow, Int.reduceDiv, Int.reduceMod]
    rfl
theorem times_l0 (l : List Int) (x : Nat) (hl : Dig 1000000 l) (hn : l.length ≤ 100000000000) (x1 : x ≤ 9000000000000) {Q : Ex → St → Prop} (hQ : ∀ S o, Big o → o.length = l.length → vl 1000000 o = vl 1000000 l * x → En S [(5, .os 100 0 o.length)] → Hp S [(100, .p 3 1 (nums .i64 o))] → Q (.x 0) S) :
    ∀ (m i : Nat) (o : List Int) (S : St), m + i = l.length → o.length = i → Big o → Hold (vl 1000000 o = vl 1000000 (l.take i) * x) →
    En S [(0, .v (i64s l)), (1, i64 x), (5, .os 100 0 i), (6, i64 i)] → Hp S [(100, .p 3 1 (nums .i64 o))] → wpC X F_waypointref01_times_l0 Q S := by
  intro m
  induction m with
  | zero =>
    intro i o S hi ho hb hv he hh
    unfold Hold at hv
    rw [vl_take_all _ _ _ (by omega)] at hv
    simp only [En, Hp, and_true] at he hh
    refine wpC_round rfl ?_
    simp (disch := omega) only [sd_t, dec_t, dec_f, i64_in, u32_in, u64_in, i64_quo, u32_quo, u64_quo, rem_in, Int.toNat_of_nonneg, go_sem, reduceCtorEq, ↓reduceIte, Nat.reduceEqDiff, Nat.reduceAdd, Nat.reduceSub, Nat.reduceMul, Nat.reduceLT, Nat.reduceLeDiff, Nat.reduceBEq, Nat.reduceBNe, Nat.reducePow, Nat.reduceDiv, Nat.reduceMod, Int.reduceAdd, Int.reduceSub, Int.reduceMul, Int.reduceLT, Int.reduceLE, Int.reduceEq, Int.reduceNe, Int.reduceNeg, Int.reduceToNat, Int.reducePow, Int.reduceDiv, Int.reduceMod, F_waypointref01_times_b0, he, hh]
    refine hQ _ o hb (by omega) hv ?_ ?_ <;> simp only [go_sem, reduceCtorEq, ↓reduceIte, Nat.reduceEqDiff, Nat.reduceAdd, Nat.reduceSub, Nat.reduceMul, Nat.reduceLT, Nat.reduceLeDiff, Nat.reduceBEq, Nat.reduceBNe, Nat.reducePow, Nat.reduceDiv, Nat.reduceMod, Int.reduceAdd, Int.reduceSub, Int.reduceMul, Int.reduceLT, Int.reduceLE, Int.reduceEq, Int.reduceNe, Int.reduceNeg, Int.reduceToNat, Int.reducePow, Int.reduceDiv, Int.reduceMod, he, hh, ho]
  | succ m ih =>
    intro i o S hi ho hb hv he hh
    have hx := hl.rd (by omega) i
    have p0 : 0 ≤ rd l (i : Int) * x := Int.mul_nonneg hx.1 (by omega)
    have p1 : rd l (i : Int) * x ≤ 999999 * 9000000000000 := Int.mul_le_mul (by omega) (by omega) (by omega) (by omega)
    have hlen' : ∀ x, (o ++ [x]).length = i + 1 := by intro x; simp [ho]
    simp only [En, Hp, and_true] at he hh
    refine wpC_round rfl ?_
    simp (disch := omega) only [sd_t, dec_t, dec_f, i64_in, u32_in, u64_in, i64_quo, u32_quo, u64_quo, rem_in, Int.toNat_of_nonneg, go_sem, reduceCtorEq, ↓reduceIte, Nat.reduceEqDiff, Nat.reduceAdd, Nat.reduceSub, Nat.reduceMul, Nat.reduceLT, Nat.reduceLeDiff, Nat.reduceBEq, Nat.reduceBNe, Nat.reducePow, Nat.reduceDiv, Nat.reduceMod, Int.reduceAdd, Int.reduceSub, Int.reduceMul, Int.reduceLT, Int.reduceLE, Int.reduceEq, Int.reduceNe, Int.reduceNeg, Int.reduceToNat, Int.reducePow, Int.reduceDiv, Int.reduceMod, F_waypointref01_times_b0, he, hh, ho, hlen', List.take_of_length_le, nums_snoc]
    refine ih (i + 1) (o ++ [rd l i * x]) _ (by omega) (hlen' _) ?_ ?_ ?_ ?_
    · intro y hy
      rcases List.mem_append.1 hy with hy | hy
      · exact hb y hy
      · rw [List.mem_singleton.1 hy]; exact ⟨p0, by omega⟩
    · unfold Hold at hv ⊢
      rw [vl_snoc, vl_take_succ, hv, ho, Int.add_mul, Int.mul_assoc]
    · simp only [go_sem, reduceCtorEq, ↓reduceIte, Nat.reduceEqDiff, Nat.reduceAdd, Nat.reduceSub, Nat.reduceMul, Nat.reduceLT, Nat.reduceLeDiff, Nat.reduceBEq, Nat.reduceBNe, Nat.reducePow, Nat.reduceDiv, Nat.reduceMod, Int.reduceAdd, Int.reduceSub, Int.reduceMul, Int.reduceLT, Int.reduceLE, Int.reduceEq, Int.reduceNe, Int.reduceNeg, Int.reduceToNat, Int.reducePow, Int.reduceDiv, Int.reduceMod, he, hh]
    · simp only [go_sem, reduceCtorEq, ↓reduceIte, Nat.reduceEqDiff, Nat.reduceAdd, Nat.reduceSub, Nat.reduceMul, Nat.reduceLT, Nat.reduceLeDiff, Nat.reduceBEq, Nat.reduceBNe, Nat.reducePow, Nat.reduceDiv, Nat.reduceMod, Int.reduceAdd, Int.reduceSub, Int.reduceMul, Int.reduceLT, Int.reduceLE, Int.reduceEq, Int.reduceNe, Int.reduceNeg, Int.reduceToNat, Int.reducePow, Int.reduceDiv, Int.reduceMod, he, hh]
theorem times_fn (hP : X.P = Tryz.prog) (a x : Nat) (hn : (dg 1000000 a).length ≤ 100000000000) (x1 : x ≤ 9000000000000) : Fn X 40 [i64s (dg 1000000 a), .sc (.int .i64 x)] (i64s (dg 1000000 (a * x))) := by
  refine W_waypointref01_times hP rfl ?_
  simp (disch := omega) only [sd_t, dec_t, dec_f, i64_in, u32_in, u64_in, i64_quo, u32_quo, u64_quo, rem_in, Int.toNat_of_nonneg, go_sem, reduceCtorEq, ↓reduceIte, Nat.reduceEqDiff, Nat.reduceAdd, Nat.reduceSub, Nat.reduceMul, Nat.reduceLT, Nat.reduceLeDiff, Nat.reduceBEq, Nat.reduceBNe, Nat.reducePow, Nat.reduceDiv, Nat.reduceMod, Int.reduceAdd, Int.reduceSub, Int.reduceMul, Int.reduceLT, Int.reduceLE, Int.reduceEq, Int.reduceNe, Int.reduceNeg, Int.reduceToNat, Int.reducePow, Int.reduceDiv, Int.reduceMod, F_waypointref01_times]
  refine times_l0 (dg 1000000 a) x (dig6 a) hn x1 ?_ (dg 1000000 a).length 0 [] _ rfl rfl (by intro y hy; cases hy) (by unfold Hold; simp [vl]) ?_ ?_
  · intro S o hb ho hv he hh
    simp only [En, Hp, and_true] at he hh
    rw [vl6] at hv
    simp (disch := omega) only [sd_t, dec_t, dec_f, i64_in, u32_in, u64_in, i64_quo, u32_quo, u64_quo, rem_in, Int.toNat_of_nonneg, go_sem, reduceCtorEq, ↓reduceIte, Nat.reduceEqDiff, Nat.reduceAdd, Nat.reduceSub, Nat.reduceMul, Nat.reduceLT, Nat.reduceLeDiff, Nat.reduceBEq, Nat.reduceBNe, Nat.reducePow, Nat.reduceDiv, Nat.reduceMod, Int.reduceAdd, Int.reduceSub, Int.reduceMul, Int.reduceLT, Int.reduceLE, Int.reduceEq, Int.reduceNe, Int.reduceNeg, Int.reduceToNat, Int.reducePow, Int.reduceDiv, Int.reduceMod, F_waypointref01_times_k0, R_waypointref01_times, he, hh]
    refine cp_of (carried_fn hP hb (by omega) (n := a * x) (by rw [hv]; simp)) (by (simp [List.take_of_length_le])) ?_
    simp (disch := omega) only [sd_t, dec_t, dec_f, i64_in, u32_in, u64_in, i64_quo, u32_quo, u64_quo, rem_in, Int.toNat_of_nonneg, go_sem, reduceCtorEq, ↓reduceIte, Nat.reduceEqDiff, Nat.reduceAdd, Nat.reduceSub, Nat.reduceMul, Nat.reduceLT, Nat.reduceLeDiff, Nat.reduceBEq, Nat.reduceBNe, Nat.reducePow, Nat.reduceDiv, Nat.reduceMod, Int.reduceAdd, Int.reduceSub, Int.reduceMul, Int.reduceLT, Int.reduceLE, Int.reduceEq, Int.reduceNe, Int.reduceNeg, Int.reduceToNat, Int.reducePow, Int.reduceDiv, Int.reduceMod, he, hh]
  · simp only [go_sem, reduceCtorEq, ↓reduceIte, Nat.reduceEqDiff, Nat.reduceAdd, Nat.reduceSub, Nat.reduceMul, Nat.reduceLT, Nat.reduceLeDiff, Nat.reduceBEq, Nat.reduceBNe, Nat.reducePow, Nat.reduceDiv, Nat.reduceMod, Int.reduceAdd, Int.reduceSub, Int.reduceMul, Int.reduceLT, Int.reduceLE, Int.reduceEq, Int.reduceNe, Int.reduceNeg, Int.reduceToNat, Int.reducePow, Int.reduceDiv, Int.reduceMod]
  · simp only [go_sem, reduceCtorEq, ↓reduceIte, Nat.reduceEqDiff, Nat.reduceAdd, Nat.reduceSub, Nat.reduceMul, Nat.reduceLT, Nat.reduceLeDiff, Nat.reduceBEq, Nat.reduceBNe, Nat.reducePow, Nat.reduceDiv, Nat.reduceMod, Int.reduceAdd, Int.reduceSub, Int.reduceMul, Int.reduceLT, Int.reduceLE, Int.reduceEq, Int.reduceNe, Int.reduceNeg, Int.reduceToNat, Int.reducePow, Int.reduceDiv, Int.reduceMod]
    rfl
theorem Of_l0R (n0 : Nat) {Q : Ex → St → Prop} (hQ : ∀ S o, Dig 1000000 o → o.length ≤ 100 → vl 1000000 o = n0 → En S [(3, .os 100 0 o.length)] → Hp S [(100, .p 3 1 (nums .i64 o))] → Q (.x 0) S) :
    ∀ (n i : Nat) (o : List Int) (S : St), n < 18446744073709551616 → o.length = i → Dig 1000000 o → i + (dg 1000000 n).length ≤ 100 → Hold (vl 1000000 o + 1000000 ^ i * n = n0) →
    En S [(0, u64 n), (3, .os 100 0 i)] → Hp S [(100, .p 3 1 (nums .i64 o))] → wpC X F_waypointref01_Of_l0 Q S := by
  intro n
  induction n using Nat.strongRecOn with
  | _ n ih =>
    intro i o S hn ho hd hlen hv he hh
    have hlen' : ∀ x, (o ++ [x]).length = i + 1 := by intro x; simp [ho]
    simp only [En, Hp, and_true] at he hh
    refine wpC_round rfl ?_
    by_cases h0 : 0 < n
    · have hdg : (dg 1000000 n).length = (dg 1000000 (n / 1000000)).length + 1 := by rw [dg_pos (by omega) h0, List.length_cons]
      simp (disch := omega) only [sd_t, dec_t, dec_f, i64_in, u32_in, u64_in, i64_quo, u32_quo, u64_quo, rem_in, Int.toNat_of_nonneg, go_sem, reduceCtorEq, ↓reduceIte, Nat.reduceEqDiff, Nat.reduceAdd, Nat.reduceSub, Nat.reduceMul, Nat.reduceLT, Nat.reduceLeDiff, Nat.reduceBEq, Nat.reduceBNe, Nat.reducePow, Nat.reduceDiv, Nat.reduceMod, Int.reduceAdd, Int.reduceSub, Int.reduceMul, Int.reduceLT, Int.reduceLE, Int.reduceEq, Int.reduceNe, Int.reduceNeg, Int.reduceToNat, Int.reducePow, Int.reduceDiv, Int.reduceMod, F_waypointref01_Of_b0, he, hh, ho, hlen', List.take_of_length_le, nums_snoc]
      refine ih (n / 1000000) (by omega) (i + 1) (o ++ [((n : Int) % 1000000)]) _ (by omega) (hlen' _) (Dig.append hd (Dig.cons (by omega) (by omega) (Dig.nil _))) (by omega) ?_ ?_ ?_
      · unfold Hold at hv ⊢
        rw [vl_snoc, ho, Int.pow_succ, ← hv, Int.add_assoc, alg_carry (s := (n : Int)) (by omega)]
      · have e : ((n / 1000000 : Nat) : Int) = (n : Int) / 1000000 := by omega
        simp only [go_sem, reduceCtorEq, ↓reduceIte, Nat.reduceEqDiff, Nat.reduceAdd, Nat.reduceSub, Nat.reduceMul, Nat.reduceLT, Nat.reduceLeDiff, Nat.reduceBEq, Nat.reduceBNe, Nat.reducePow, Nat.reduceDiv, Nat.reduceMod, Int.reduceAdd, Int.reduceSub, Int.reduceMul, Int.reduceLT, Int.reduceLE, Int.reduceEq, Int.reduceNe, Int.reduceNeg, Int.reduceToNat, Int.reducePow, Int.reduceDiv, Int.reduceMod, he, hh, e]
      · simp only [go_sem, reduceCtorEq, ↓reduceIte, Nat.reduceEqDiff, Nat.reduceAdd, Nat.reduceSub, Nat.reduceMul, Nat.reduceLT, Nat.reduceLeDiff, Nat.reduceBEq, Nat.reduceBNe, Nat.reducePow, Nat.reduceDiv, Nat.reduceMod, Int.reduceAdd, Int.reduceSub, Int.reduceMul, Int.reduceLT, Int.reduceLE, Int.reduceEq, Int.reduceNe, Int.reduceNeg, Int.reduceToNat, Int.reducePow, Int.reduceDiv, Int.reduceMod, he, hh]
    · obtain rfl : n = 0 := by omega
      unfold Hold at hv
      rw [Int.natCast_zero, Int.mul_zero, Int.add_zero] at hv
      simp (disch := omega) only [sd_t, dec_t, dec_f, i64_in, u32_in, u64_in, i64_quo, u32_quo, u64_quo, rem_in, Int.toNat_of_nonneg, go_sem, reduceCtorEq, ↓reduceIte, Nat.reduceEqDiff, Nat.reduceAdd, Nat.reduceSub, Nat.reduceMul, Nat.reduceLT, Nat.reduceLeDiff, Nat.reduceBEq, Nat.reduceBNe, Nat.reducePow, Nat.reduceDiv, Nat.reduceMod, Int.reduceAdd, Int.reduceSub, Int.reduceMul, Int.reduceLT, Int.reduceLE, Int.reduceEq, Int.reduceNe, Int.reduceNeg, Int.reduceToNat, Int.reducePow, Int.reduceDiv, Int.reduceMod, F_waypointref01_Of_b0, he, hh, ho, hlen', List.take_of_length_le, nums_snoc]
      refine hQ _ o hd (by omega) hv ?_ ?_ <;> simp only [go_sem, reduceCtorEq, ↓reduceIte, Nat.reduceEqDiff, Nat.reduceAdd, Nat.reduceSub, Nat.reduceMul, Nat.reduceLT, Nat.reduceLeDiff, Nat.reduceBEq, Nat.reduceBNe, Nat.reducePow, Nat.reduceDiv, Nat.reduceMod, Int.reduceAdd, Int.reduceSub, Int.reduceMul, Int.reduceLT, Int.reduceLE, Int.reduceEq, Int.reduceNe, Int.reduceNeg, Int.reduceToNat, Int.reducePow, Int.reduceDiv, Int.reduceMod, he, hh, ho]
theorem Of_fnR (hP : X.P = Tryz.prog) (n : Nat) (hn : n < 18446744073709551616) : Fn X 17 [.sc (.int .u64 n)] (i64s (dg 1000000 n)) := by
  have hl : (dg 1000000 n).length ≤ 4 := dg_length (by omega) (by omega)
  refine W_waypointref01_Of hP rfl ?_
  simp (disch := omega) only [sd_t, dec_t, dec_f, i64_in, u32_in, u64_in, i64_quo, u32_quo, u64_quo, rem_in, Int.toNat_of_nonneg, go_sem, reduceCtorEq, ↓reduceIte, Nat.reduceEqDiff, Nat.reduceAdd, Nat.reduceSub, Nat.reduceMul, Nat.reduceLT, Nat.reduceLeDiff, Nat.reduceBEq, Nat.reduceBNe, Nat.reducePow, Nat.reduceDiv, Nat.reduceMod, Int.reduceAdd, Int.reduceSub, Int.reduceMul, Int.reduceLT, Int.reduceLE, Int.reduceEq, Int.reduceNe, Int.reduceNeg, Int.reduceToNat, Int.reducePow, Int.reduceDiv, Int.reduceMod, F_waypointref01_Of]
  refine Of_l0R n ?_ n 0 [] _ hn rfl (Dig.nil _) (by omega) (by unfold Hold; simp [vl]) ?_ ?_
  · intro S o hd ho hv he hh
    simp only [En, Hp, and_true] at he hh
    simp (disch := omega) only [sd_t, dec_t, dec_f, i64_in, u32_in, u64_in, i64_quo, u32_quo, u64_quo, rem_in, Int.toNat_of_nonneg, go_sem, reduceCtorEq, ↓reduceIte, Nat.reduceEqDiff, Nat.reduceAdd, Nat.reduceSub, Nat.reduceMul, Nat.reduceLT, Nat.reduceLeDiff, Nat.reduceBEq, Nat.reduceBNe, Nat.reducePow, Nat.reduceDiv, Nat.reduceMod, Int.reduceAdd, Int.reduceSub, Int.reduceMul, Int.reduceLT, Int.reduceLE, Int.reduceEq, Int.reduceNe, Int.reduceNeg, Int.reduceToNat, Int.reducePow, Int.reduceDiv, Int.reduceMod, F_waypointref01_Of_k0, R_waypointref01_Of, he, hh]
    refine cp_of (without_nat hP (by omega) hd hv) (by (simp [List.take_of_length_le])) ?_
    simp (disch := omega) only [sd_t, dec_t, dec_f, i64_in, u32_in, u64_in, i64_quo, u32_quo, u64_quo, rem_in, Int.toNat_of_nonneg, go_sem, reduceCtorEq, ↓reduceIte, Nat.reduceEqDiff, Nat.reduceAdd, Nat.reduceSub, Nat.reduceMul, Nat.reduceLT, Nat.reduceLeDiff, Nat.reduceBEq, Nat.reduceBNe, Nat.reducePow, Nat.reduceDiv, Nat.reduceMod, Int.reduceAdd, Int.reduceSub, Int.reduceMul, Int.reduceLT, Int.reduceLE, Int.reduceEq, Int.reduceNe, Int.reduceNeg, Int.reduceToNat, Int.reducePow, Int.reduceDiv, Int.reduceMod, he, hh]
  · simp only [go_sem, reduceCtorEq, ↓reduceIte, Nat.reduceEqDiff, Nat.reduceAdd, Nat.reduceSub, Nat.reduceMul, Nat.reduceLT, Nat.reduceLeDiff, Nat.reduceBEq, Nat.reduceBNe, Nat.reducePow, Nat.reduceDiv, Nat.reduceMod, Int.reduceAdd, Int.reduceSub, Int.reduceMul, Int.reduceLT, Int.reduceLE, Int.reduceEq, Int.reduceNe, Int.reduceNeg, Int.reduceToNat, Int.reducePow, Int.reduceDiv, Int.reduceMod]
  · simp only [go_sem, reduceCtorEq, ↓reduceIte, Nat.reduceEqDiff, Nat.reduceAdd, Nat.reduceSub, Nat.reduceMul, Nat.reduceLT, Nat.reduceLeDiff, Nat.reduceBEq, Nat.reduceBNe, Nat.reducePow, Nat.reduceDiv, Nat.reduceMod, Int.reduceAdd, Int.reduceSub, Int.reduceMul, Int.reduceLT, Int.reduceLE, Int.reduceEq, Int.reduceNe, Int.reduceNeg, Int.reduceToNat, Int.reducePow, Int.reduceDiv, Int.reduceMod]
    rfl
theorem Add_l1R (r : List Int) (v0 : Int) (n : Nat) (hr : Dig 1000000 r) (hrn : r.length ≤ n) (hn : n ≤ 100000000000) {Q : Ex → St → Prop} (hQ : ∀ S o, Big o → o.length = n → vl 1000000 o = v0 + vl 1000000 r → En S [(5, .os 100 0 n)] → Hp S [(100, .p 3 1 (nums .i64 o))] → Q (.x 2) S) :
    ∀ (m i : Nat) (o : List Int) (S : St), m + i = r.length → o.length = n → (∀ p : Nat, 0 ≤ rd o (p : Int) ∧ rd o (p : Int) ≤ 2000000) → (∀ p : Nat, i ≤ p → rd o (p : Int) ≤ 1000000) → Hold (vl 1000000 o = v0 + vl 1000000 (r.take i)) →
    En S [(1, .v (i64s r)), (5, .os 100 0 n), (7, i64 i)] → Hp S [(100, .p 3 1 (nums .i64 o))] → wpC X F_waypointref01_Add_l1 Q S := by
  intro m
  induction m with
  | zero =>
    intro i o S hi ho hb _ hv he hh
    unfold Hold at hv
    rw [vl_take_all _ _ _ (by omega)] at hv
    have hB : Big o := fun x hx => by
      obtain ⟨p, hp, rfl⟩ := List.getElem_of_mem hx
      have := hb p
      rw [rd_nat _ _ hp] at this
      omega
    simp only [En, Hp, and_true] at he hh
    refine wpC_round rfl ?_
    simp (disch := omega) only [sd_t, dec_t, dec_f, i64_in, u32_in, u64_in, i64_quo, u32_quo, u64_quo, rem_in, Int.toNat_of_nonneg, go_sem, reduceCtorEq, ↓reduceIte, Nat.reduceEqDiff, Nat.reduceAdd, Nat.reduceSub, Nat.reduceMul, Nat.reduceLT, Nat.reduceLeDiff, Nat.reduceBEq, Nat.reduceBNe, Nat.reducePow, Nat.reduceDiv, Nat.reduceMod, Int.reduceAdd, Int.reduceSub, Int.reduceMul, Int.reduceLT, Int.reduceLE, Int.reduceEq, Int.reduceNe, Int.reduceNeg, Int.reduceToNat, Int.reducePow, Int.reduceDiv, Int.reduceMod, F_waypointref01_Add_b1, he, hh]
    refine hQ _ o hB ho hv ?_ ?_ <;> simp only [go_sem, reduceCtorEq, ↓reduceIte, Nat.reduceEqDiff, Nat.reduceAdd, Nat.reduceSub, Nat.reduceMul, Nat.reduceLT, Nat.reduceLeDiff, Nat.reduceBEq, Nat.reduceBNe, Nat.reducePow, Nat.reduceDiv, Nat.reduceMod, Int.reduceAdd, Int.reduceSub, Int.reduceMul, Int.reduceLT, Int.reduceLE, Int.reduceEq, Int.reduceNe, Int.reduceNeg, Int.reduceToNat, Int.reducePow, Int.reduceDiv, Int.reduceMod, he, hh, ho]
  | succ m ih =>
    intro i o S hi ho hb hb2 hv he hh
    have hx := hr.rd (by omega) i
    have hy := hb i
    have hz := hb2 i (Nat.le_refl _)
    simp only [En, Hp, and_true] at he hh
    refine wpC_round rfl ?_
    simp (disch := omega) only [sd_t, dec_t, dec_f, i64_in, u32_in, u64_in, i64_quo, u32_quo, u64_quo, rem_in, Int.toNat_of_nonneg, go_sem, reduceCtorEq, ↓reduceIte, Nat.reduceEqDiff, Nat.reduceAdd, Nat.reduceSub, Nat.reduceMul, Nat.reduceLT, Nat.reduceLeDiff, Nat.reduceBEq, Nat.reduceBNe, Nat.reducePow, Nat.reduceDiv, Nat.reduceMod, Int.reduceAdd, Int.reduceSub, Int.reduceMul, Int.reduceLT, Int.reduceLE, Int.reduceEq, Int.reduceNe, Int.reduceNeg, Int.reduceToNat, Int.reducePow, Int.reduceDiv, Int.reduceMod, F_waypointref01_Add_b1, he, hh, ho]
    refine ih (i + 1) (o.set i (rd o (i : Int) + rd r (i : Int))) _ (by omega) (by simpa using ho) (fun p => by
        by_cases hp : i = p
        · subst hp; rw [rd_set_eq _ _ _ (by omega)]; omega
        · rw [rd_set_ne _ _ _ _ hp]; exact hb p) (fun p hp => by rw [rd_set_ne _ _ _ _ (by omega)]; exact hb2 p (by omega)) ?_ ?_ ?_
    · unfold Hold at hv ⊢
      rw [vl_set _ _ _ _ (by omega), vl_take_succ, hv, asc, Int.add_assoc]
    · simp only [go_sem, reduceCtorEq, ↓reduceIte, Nat.reduceEqDiff, Nat.reduceAdd, Nat.reduceSub, Nat.reduceMul, Nat.reduceLT, Nat.reduceLeDiff, Nat.reduceBEq, Nat.reduceBNe, Nat.reducePow, Nat.reduceDiv, Nat.reduceMod, Int.reduceAdd, Int.reduceSub, Int.reduceMul, Int.reduceLT, Int.reduceLE, Int.reduceEq, Int.reduceNe, Int.reduceNeg, Int.reduceToNat, Int.reducePow, Int.reduceDiv, Int.reduceMod, he, hh]
    · simp only [go_sem, reduceCtorEq, ↓reduceIte, Nat.reduceEqDiff, Nat.reduceAdd, Nat.reduceSub, Nat.reduceMul, Nat.reduceLT, Nat.reduceLeDiff, Nat.reduceBEq, Nat.reduceBNe, Nat.reducePow, Nat.reduceDiv, Nat.reduceMod, Int.reduceAdd, Int.reduceSub, Int.reduceMul, Int.reduceLT, Int.reduceLE, Int.reduceEq, Int.reduceNe, Int.reduceNeg, Int.reduceToNat, Int.reducePow, Int.reduceDiv, Int.reduceMod, he, hh]
theorem Add_l0R (l r : List Int) (n : Nat) (hl : Dig 1000000 l) (hr : Dig 1000000 r) (hln : l.length ≤ n) (hn : n ≤ 100000000000) {Q : Ex → St → Prop} (hQ : ∀ S o, o.length = n → (∀ p : Nat, 0 ≤ rd o (p : Int) ∧ rd o (p : Int) ≤ 1000000) → vl 1000000 o = vl 1000000 l → En S [(1, .v (i64s r)), (5, .os 100 0 n)] → Hp S [(100, .p 3 1 (nums .i64 o))] → Q (.x 0) S) :
    ∀ (m i : Nat) (o : List Int) (S : St), m + i = l.length → o.length = n → (∀ p : Nat, 0 ≤ rd o (p : Int) ∧ rd o (p : Int) ≤ 1000000) → (∀ p : Nat, i ≤ p → rd o (p : Int) = 0) → Hold (vl 1000000 o = vl 1000000 (l.take i)) →
    En S [(0, .v (i64s l)), (1, .v (i64s r)), (5, .os 100 0 n), (6, i64 i)] → Hp S [(100, .p 3 1 (nums .i64 o))] → wpC X F_waypointref01_Add_l0 Q S := by
  intro m
  induction m with
  | zero =>
    intro i o S hi ho hb _ hv he hh
    unfold Hold at hv
    rw [vl_take_all _ _ _ (by omega)] at hv
    simp only [En, Hp, and_true] at he hh
    refine wpC_round rfl ?_
    simp (disch := omega) only [sd_t, dec_t, dec_f, i64_in, u32_in, u64_in, i64_quo, u32_quo, u64_quo, rem_in, Int.toNat_of_nonneg, go_sem, reduceCtorEq, ↓reduceIte, Nat.reduceEqDiff, Nat.reduceAdd, Nat.reduceSub, Nat.reduceMul, Nat.reduceLT, Nat.reduceLeDiff, Nat.reduceBEq, Nat.reduceBNe, Nat.reducePow, Nat.reduceDiv, Nat.reduceMod, Int.reduceAdd, Int.reduceSub, Int.reduceMul, Int.reduceLT, Int.reduceLE, Int.reduceEq, Int.reduceNe, Int.reduceNeg, Int.reduceToNat, Int.reducePow, Int.reduceDiv, Int.reduceMod, F_waypointref01_Add_b0, he, hh]
    refine hQ _ o ho hb hv ?_ ?_ <;> simp only [go_sem, reduceCtorEq, ↓reduceIte, Nat.reduceEqDiff, Nat.reduceAdd, Nat.reduceSub, Nat.reduceMul, Nat.reduceLT, Nat.reduceLeDiff, Nat.reduceBEq, Nat.reduceBNe, Nat.reducePow, Nat.reduceDiv, Nat.reduceMod, Int.reduceAdd, Int.reduceSub, Int.reduceMul, Int.reduceLT, Int.reduceLE, Int.reduceEq, Int.reduceNe, Int.reduceNeg, Int.reduceToNat, Int.reducePow, Int.reduceDiv, Int.reduceMod, he, hh, ho]
  | succ m ih =>
    intro i o S hi ho hb hb2 hv he hh
    have hx := hl.rd (by omega) i
    have hy := hb i
    have hz := hb2 i (Nat.le_refl _)
    simp only [En, Hp, and_true] at he hh
    refine wpC_round rfl ?_
    simp (disch := omega) only [sd_t, dec_t, dec_f, i64_in, u32_in, u64_in, i64_quo, u32_quo, u64_quo, rem_in, Int.toNat_of_nonneg, go_sem, reduceCtorEq, ↓reduceIte, Nat.reduceEqDiff, Nat.reduceAdd, Nat.reduceSub, Nat.reduceMul, Nat.reduceLT, Nat.reduceLeDiff, Nat.reduceBEq, Nat.reduceBNe, Nat.reducePow, Nat.reduceDiv, Nat.reduceMod, Int.reduceAdd, Int.reduceSub, Int.reduceMul, Int.reduceLT, Int.reduceLE, Int.reduceEq, Int.reduceNe, Int.reduceNeg, Int.reduceToNat, Int.reducePow, Int.reduceDiv, Int.reduceMod, F_waypointref01_Add_b0, he, hh, ho]
    refine ih (i + 1) (o.set i (rd o (i : Int) + rd l (i : Int))) _ (by omega) (by simpa using ho) (fun p => by
        by_cases hp : i = p
        · subst hp; rw [rd_set_eq _ _ _ (by omega)]; omega
        · rw [rd_set_ne _ _ _ _ hp]; exact hb p) (fun p hp => by rw [rd_set_ne _ _ _ _ (by omega)]; exact hb2 p (by omega)) ?_ ?_ ?_
    · unfold Hold at hv ⊢
      rw [vl_set _ _ _ _ (by omega), vl_take_succ, hv, hz, Int.zero_add, Int.sub_zero]
    · simp only [go_sem, reduceCtorEq, ↓reduceIte, Nat.reduceEqDiff, Nat.reduceAdd, Nat.reduceSub, Nat.reduceMul, Nat.reduceLT, Nat.reduceLeDiff, Nat.reduceBEq, Nat.reduceBNe, Nat.reducePow, Nat.reduceDiv, Nat.reduceMod, Int.reduceAdd, Int.reduceSub, Int.reduceMul, Int.reduceLT, Int.reduceLE, Int.reduceEq, Int.reduceNe, Int.reduceNeg, Int.reduceToNat, Int.reducePow, Int.reduceDiv, Int.reduceMod, he, hh]
    · simp only [go_sem, reduceCtorEq, ↓reduceIte, Nat.reduceEqDiff, Nat.reduceAdd, Nat.reduceSub, Nat.reduceMul, Nat.reduceLT, Nat.reduceLeDiff, Nat.reduceBEq, Nat.reduceBNe, Nat.reducePow, Nat.reduceDiv, Nat.reduceMod, Int.reduceAdd, Int.reduceSub, Int.reduceMul, Int.reduceLT, Int.reduceLE, Int.reduceEq, Int.reduceNe, Int.reduceNeg, Int.reduceToNat, Int.reducePow, Int.reduceDiv, Int.reduceMod, he, hh]
theorem Add_fnR (hP : X.P = Tryz.prog) (a b : Nat) (ha : (dg 1000000 a).length ≤ 100000000000) (hb : (dg 1000000 b).length ≤ 100000000000) : Fn X 24 [i64s (dg 1000000 a), i64s (dg 1000000 b)] (i64s (dg 1000000 (a + b))) := by
  obtain ⟨n, hn, h1, h2, h3⟩ : ∃ n : Nat, (if ((dg 1000000 a).length : Int) < (dg 1000000 b).length then ((dg 1000000 b).length : Int) else (dg 1000000 a).length) = (n : Int) ∧ (dg 1000000 a).length ≤ n ∧ (dg 1000000 b).length ≤ n ∧ n ≤ 100000000000 := by
    refine ⟨max (dg 1000000 a).length (dg 1000000 b).length, ?_, by omega, by omega, by omega⟩
    split <;> omega
  refine W_waypointref01_Add hP rfl ?_
  simp (disch := omega) only [sd_t, dec_t, dec_f, i64_in, u32_in, u64_in, i64_quo, u32_quo, u64_quo, rem_in, Int.toNat_of_nonneg, go_sem, reduceCtorEq, ↓reduceIte, Nat.reduceEqDiff, Nat.reduceAdd, Nat.reduceSub, Nat.reduceMul, Nat.reduceLT, Nat.reduceLeDiff, Nat.reduceBEq, Nat.reduceBNe, Nat.reducePow, Nat.reduceDiv, Nat.reduceMod, Int.reduceAdd, Int.reduceSub, Int.reduceMul, Int.reduceLT, Int.reduceLE, Int.reduceEq, Int.reduceNe, Int.reduceNeg, Int.reduceToNat, Int.reducePow, Int.reduceDiv, Int.reduceMod, F_waypointref01_Add, hn]
  refine Add_l0R (dg 1000000 a) (dg 1000000 b) n (dig6 a) (dig6 b) h1 h3 ?_ (dg 1000000 a).length 0 (List.replicate n 0) _ (by omega) (by simp) (fun p => by rw [rd_rep]; omega) (fun p _ => rd_rep _ _) (by unfold Hold; rw [vl_rep]; simp [vl]) ?_ ?_
  · intro S o ho hb hv he hh
    rw [vl6] at hv
    simp only [En, Hp, and_true] at he hh
    simp (disch := omega) only [sd_t, dec_t, dec_f, i64_in, u32_in, u64_in, i64_quo, u32_quo, u64_quo, rem_in, Int.toNat_of_nonneg, go_sem, reduceCtorEq, ↓reduceIte, Nat.reduceEqDiff, Nat.reduceAdd, Nat.reduceSub, Nat.reduceMul, Nat.reduceLT, Nat.reduceLeDiff, Nat.reduceBEq, Nat.reduceBNe, Nat.reducePow, Nat.reduceDiv, Nat.reduceMod, Int.reduceAdd, Int.reduceSub, Int.reduceMul, Int.reduceLT, Int.reduceLE, Int.reduceEq, Int.reduceNe, Int.reduceNeg, Int.reduceToNat, Int.reducePow, Int.reduceDiv, Int.reduceMod, F_waypointref01_Add_k1, he, hh]
    refine Add_l1R (dg 1000000 b) a n (dig6 b) h2 h3 ?_ (dg 1000000 b).length 0 o _ (by omega) ho (fun p => ⟨(hb p).1, by have := (hb p).2; omega⟩) (fun p _ => (hb p).2) (by unfold Hold; rw [hv]; simp [vl]) ?_ ?_
    · intro S o hB ho hv he hh
      simp only [En, Hp, and_true] at he hh
      rw [vl6] at hv
      simp (disch := omega) only [sd_t, dec_t, dec_f, i64_in, u32_in, u64_in, i64_quo, u32_quo, u64_quo, rem_in, Int.toNat_of_nonneg, go_sem, reduceCtorEq, ↓reduceIte, Nat.reduceEqDiff, Nat.reduceAdd, Nat.reduceSub, Nat.reduceMul, Nat.reduceLT, Nat.reduceLeDiff, Nat.reduceBEq, Nat.reduceBNe, Nat.reducePow, Nat.reduceDiv, Nat.reduceMod, Int.reduceAdd, Int.reduceSub, Int.reduceMul, Int.reduceLT, Int.reduceLE, Int.reduceEq, Int.reduceNe, Int.reduceNeg, Int.reduceToNat, Int.reducePow, Int.reduceDiv, Int.reduceMod, F_waypointref01_Add_k0, R_waypointref01_Add, he, hh]
      refine cp_of (carried_fn hP hB (by omega) (n := a + b) (by omega)) (by (simp [List.take_of_length_le, ho])) ?_
      simp (disch := omega) only [sd_t, dec_t, dec_f, i64_in, u32_in, u64_in, i64_quo, u32_quo, u64_quo, rem_in, Int.toNat_of_nonneg, go_sem, reduceCtorEq, ↓reduceIte, Nat.reduceEqDiff, Nat.reduceAdd, Nat.reduceSub, Nat.reduceMul, Nat.reduceLT, Nat.reduceLeDiff, Nat.reduceBEq, Nat.reduceBNe, Nat.reducePow, Nat.reduceDiv, Nat.reduceMod, Int.reduceAdd, Int.reduceSub, Int.reduceMul, Int.reduceLT, Int.reduceLE, Int.reduceEq, Int.reduceNe, Int.reduceNeg, Int.reduceToNat, Int.reducePow, Int.reduceDiv, Int.reduceMod, he, hh]
    · simp only [go_sem, reduceCtorEq, ↓reduceIte, Nat.reduceEqDiff, Nat.reduceAdd, Nat.reduceSub, Nat.reduceMul, Nat.reduceLT, Nat.reduceLeDiff, Nat.reduceBEq, Nat.reduceBNe, Nat.reducePow, Nat.reduceDiv, Nat.reduceMod, Int.reduceAdd, Int.reduceSub, Int.reduceMul, Int.reduceLT, Int.reduceLE, Int.reduceEq, Int.reduceNe, Int.reduceNeg, Int.reduceToNat, Int.reducePow, Int.reduceDiv, Int.reduceMod, he, hh]
    · simp only [go_sem, reduceCtorEq, ↓reduceIte, Nat.reduceEqDiff, Nat.reduceAdd, Nat.reduceSub, Nat.reduceMul, Nat.reduceLT, Nat.reduceLeDiff, Nat.reduceBEq, Nat.reduceBNe, Nat.reducePow, Nat.reduceDiv, Nat.reduceMod, Int.reduceAdd, Int.reduceSub, Int.reduceMul, Int.reduceLT, Int.reduceLE, Int.reduceEq, Int.reduceNe, Int.reduceNeg, Int.reduceToNat, Int.reducePow, Int.reduceDiv, Int.reduceMod, he, hh]
  · simp only [go_sem, reduceCtorEq, ↓reduceIte, Nat.reduceEqDiff, Nat.reduceAdd, Nat.reduceSub, Nat.reduceMul, Nat.reduceLT, Nat.reduceLeDiff, Nat.reduceBEq, Nat.reduceBNe, Nat.reducePow, Nat.reduceDiv, Nat.reduceMod, Int.reduceAdd, Int.reduceSub, Int.reduceMul, Int.reduceLT, Int.reduceLE, Int.reduceEq, Int.reduceNe, Int.reduceNeg, Int.reduceToNat, Int.reducePow, Int.reduceDiv, Int.reduceMod]
  · simp only [go_sem, reduceCtorEq, ↓reduceIte, Nat.reduceEqDiff, Nat.reduceAdd, Nat.reduceSub, Nat.reduceMul, Nat.reduceLT, Nat.reduceLeDiff, Nat.reduceBEq, Nat.reduceBNe, Nat.reducePow, Nat.reduceDiv, Nat.reduceMod, Int.reduceAdd, Int.reduceSub, Int.reduceMul, Int.reduceLT, Int.reduceLE, Int.reduceEq, Int.reduceNe, Int.reduceNeg, Int.reduceToNat, Int.reducePow, Int.reduceDiv, Int.reduceMod]
theorem Make_l0 (hP : X.P = Tryz.prog) (l : List Int) (hl : Dig 4294967296 l) (hn : l.length ≤ 1000000) {Q : Ex → St → Prop} (hQ : ∀ S, En S [(3, .v (i64s (dg 1000000 (num l))))] → S.heap 100 = none → Q (.x 0) S) : ∀ (m i a : Nat) (S : St), m + i = l.length → (a : Int) = vl 4294967296 (l.drop m) → Hold (a < 1000000 ^ (2 * i)) →
    En S [(0, .v (u32s l)), (3, .v (i64s (dg 1000000 a))), (4, i64 i)] → wpC X F_waypointref01_Make_l0 Q S := by
  intro m
  induction m with
  | zero =>
    intro i a S hi ha _ he
    rw [List.drop_zero] at ha
    have e : num l = a := by unfold num; omega
    rw [e] at hQ
    simp only [En, Hp, and_true] at he
    refine wpC_round rfl ?_
    simp (disch := omega) only [sd_t, dec_t, dec_f, i64_in, u32_in, u64_in, i64_quo, u32_quo, u64_quo, rem_in, Int.toNat_of_nonneg, go_sem, reduceCtorEq, ↓reduceIte, Nat.reduceEqDiff, Nat.reduceAdd, Nat.reduceSub, Nat.reduceMul, Nat.reduceLT, Nat.reduceLeDiff, Nat.reduceBEq, Nat.reduceBNe, Nat.reducePow, Nat.reduceDiv, Nat.reduceMod, Int.reduceAdd, Int.reduceSub, Int.reduceMul, Int.reduceLT, Int.reduceLE, Int.reduceEq, Int.reduceNe, Int.reduceNeg, Int.reduceToNat, Int.reducePow, Int.reduceDiv, Int.reduceMod, F_waypointref01_Make_b0, he]
    refine hQ _ ?_ ?_ <;> simp only [go_sem, reduceCtorEq, ↓reduceIte, Nat.reduceEqDiff, Nat.reduceAdd, Nat.reduceSub, Nat.reduceMul, Nat.reduceLT, Nat.reduceLeDiff, Nat.reduceBEq, Nat.reduceBNe, Nat.reducePow, Nat.reduceDiv, Nat.reduceMod, Int.reduceAdd, Int.reduceSub, Int.reduceMul, Int.reduceLT, Int.reduceLE, Int.reduceEq, Int.reduceNe, Int.reduceNeg, Int.reduceToNat, Int.reducePow, Int.reduceDiv, Int.reduceMod, he]
  | succ m ih =>
    intro i a S hi ha hb he
    have hx := hl.rd (by omega) m
    obtain ⟨x, hxx⟩ : ∃ x : Nat, rd l (m : Int) = (x : Int) := ⟨(rd l (m : Int)).toNat, by omega⟩
    have hal : (dg 1000000 a).length ≤ 2 * i := dg_length (by omega) hb
    have ha2 : a * 4294967296 + x < 1000000 ^ (2 * (i + 1)) := by
      unfold Hold at hb
      rw [show 2 * (i + 1) = 2 * i + 1 + 1 from by omega, Nat.pow_succ, Nat.pow_succ]
      generalize 1000000 ^ (2 * i) = P at hb ⊢
      omega
    have hml : (dg 1000000 (a * 4294967296)).length ≤ 2 * (i + 1) := dg_length (by omega) (Nat.lt_of_le_of_lt (Nat.le_add_right _ _) ha2)
    have hxl : (dg 1000000 x).length ≤ 2 := dg_length (by omega) (by omega)
    have hm : (l.length : Int) - 1 - i = (m : Int) := by omega
    simp only [En, Hp, and_true] at he
    refine wpC_round rfl ?_
    simp (disch := omega) only [sd_t, dec_t, dec_f, i64_in, u32_in, u64_in, i64_quo, u32_quo, u64_quo, rem_in, Int.toNat_of_nonneg, go_sem, reduceCtorEq, ↓reduceIte, Nat.reduceEqDiff, Nat.reduceAdd, Nat.reduceSub, Nat.reduceMul, Nat.reduceLT, Nat.reduceLeDiff, Nat.reduceBEq, Nat.reduceBNe, Nat.reducePow, Nat.reduceDiv, Nat.reduceMod, Int.reduceAdd, Int.reduceSub, Int.reduceMul, Int.reduceLT, Int.reduceLE, Int.reduceEq, Int.reduceNe, Int.reduceNeg, Int.reduceToNat, Int.reducePow, Int.reduceDiv, Int.reduceMod, F_waypointref01_Make_b0, he]
    refine cp_of (times_fn hP a 4294967296 (by omega) (by omega)) rfl ?_
    simp (disch := omega) only [sd_t, dec_t, dec_f, i64_in, u32_in, u64_in, i64_quo, u32_quo, u64_quo, rem_in, Int.toNat_of_nonneg, go_sem, reduceCtorEq, ↓reduceIte, Nat.reduceEqDiff, Nat.reduceAdd, Nat.reduceSub, Nat.reduceMul, Nat.reduceLT, Nat.reduceLeDiff, Nat.reduceBEq, Nat.reduceBNe, Nat.reducePow, Nat.reduceDiv, Nat.reduceMod, Int.reduceAdd, Int.reduceSub, Int.reduceMul, Int.reduceLT, Int.reduceLE, Int.reduceEq, Int.reduceNe, Int.reduceNeg, Int.reduceToNat, Int.reducePow, Int.reduceDiv, Int.reduceMod, he, hm, hxx]
    refine cp_of (Of_fnR hP x (by omega)) rfl ?_
    simp (disch := omega) only [sd_t, dec_t, dec_f, i64_in, u32_in, u64_in, i64_quo, u32_quo, u64_quo, rem_in, Int.toNat_of_nonneg, go_sem, reduceCtorEq, ↓reduceIte, Nat.reduceEqDiff, Nat.reduceAdd, Nat.reduceSub, Nat.reduceMul, Nat.reduceLT, Nat.reduceLeDiff, Nat.reduceBEq, Nat.reduceBNe, Nat.reducePow, Nat.reduceDiv, Nat.reduceMod, Int.reduceAdd, Int.reduceSub, Int.reduceMul, Int.reduceLT, Int.reduceLE, Int.reduceEq, Int.reduceNe, Int.reduceNeg, Int.reduceToNat, Int.reducePow, Int.reduceDiv, Int.reduceMod, he]
    refine cp_of (Add_fnR hP _ _ (by omega) (by omega)) rfl ?_
    simp (disch := omega) only [sd_t, dec_t, dec_f, i64_in, u32_in, u64_in, i64_quo, u32_quo, u64_quo, rem_in, Int.toNat_of_nonneg, go_sem, reduceCtorEq, ↓reduceIte, Nat.reduceEqDiff, Nat.reduceAdd, Nat.reduceSub, Nat.reduceMul, Nat.reduceLT, Nat.reduceLeDiff, Nat.reduceBEq, Nat.reduceBNe, Nat.reducePow, Nat.reduceDiv, Nat.reduceMod, Int.reduceAdd, Int.reduceSub, Int.reduceMul, Int.reduceLT, Int.reduceLE, Int.reduceEq, Int.reduceNe, Int.reduceNeg, Int.reduceToNat, Int.reducePow, Int.reduceDiv, Int.reduceMod, he]
    refine ih (i + 1) (a * 4294967296 + x) _ (by omega) ?_ ha2 ?_
    · rw [vl_drop _ _ _ (by omega), ← ha, ← rd_nat l m (by omega), hxx]; omega
    · simp only [go_sem, reduceCtorEq, ↓reduceIte, Nat.reduceEqDiff, Nat.reduceAdd, Nat.reduceSub, Nat.reduceMul, Nat.reduceLT, Nat.reduceLeDiff, Nat.reduceBEq, Nat.reduceBNe, Nat.reducePow, Nat.reduceDiv, Nat.reduceMod, Int.reduceAdd, Int.reduceSub, Int.reduceMul, Int.reduceLT, Int.reduceLE, Int.reduceEq, Int.reduceNe, Int.reduceNeg, Int.reduceToNat, Int.reducePow, Int.reduceDiv, Int.reduceMod, he]
theorem Make_fnR (hP : X.P = Tryz.prog) (l : List Int) (hl : Dig 4294967296 l) (hn : l.length ≤ 1000000) : Fn X 30 [u32s l] (i64s (dg 1000000 (num l))) := by
  refine W_waypointref01_Make hP rfl ?_
  simp (disch := omega) only [sd_t, dec_t, dec_f, i64_in, u32_in, u64_in, i64_quo, u32_quo, u64_quo, rem_in, Int.toNat_of_nonneg, go_sem, reduceCtorEq, ↓reduceIte, Nat.reduceEqDiff, Nat.reduceAdd, Nat.reduceSub, Nat.reduceMul, Nat.reduceLT, Nat.reduceLeDiff, Nat.reduceBEq, Nat.reduceBNe, Nat.reducePow, Nat.reduceDiv, Nat.reduceMod, Int.reduceAdd, Int.reduceSub, Int.reduceMul, Int.reduceLT, Int.reduceLE, Int.reduceEq, Int.reduceNe, Int.reduceNeg, Int.reduceToNat, Int.reducePow, Int.reduceDiv, Int.reduceMod, F_waypointref01_Make]
  refine Make_l0 hP l hl hn ?_ l.length 0 0 _ (by omega) (by rw [List.drop_length]; rfl) (by unfold Hold; simp) ?_
  · intro S he hh
    simp only [En, and_true] at he
    simp (disch := omega) only [sd_t, dec_t, dec_f, i64_in, u32_in, u64_in, i64_quo, u32_quo, u64_quo, rem_in, Int.toNat_of_nonneg, go_sem, reduceCtorEq, ↓reduceIte, Nat.reduceEqDiff, Nat.reduceAdd, Nat.reduceSub, Nat.reduceMul, Nat.reduceLT, Nat.reduceLeDiff, Nat.reduceBEq, Nat.reduceBNe, Nat.reducePow, Nat.reduceDiv, Nat.reduceMod, Int.reduceAdd, Int.reduceSub, Int.reduceMul, Int.reduceLT, Int.reduceLE, Int.reduceEq, Int.reduceNe, Int.reduceNeg, Int.reduceToNat, Int.reducePow, Int.reduceDiv, Int.reduceMod, F_waypointref01_Make_k0, R_waypointref01_Make, he, hh]
  · simp only [go_sem, reduceCtorEq, ↓reduceIte, Nat.reduceEqDiff, Nat.reduceAdd, Nat.reduceSub, Nat.reduceMul, Nat.reduceLT, Nat.reduceLeDiff, Nat.reduceBEq, Nat.reduceBNe, Nat.reducePow, Nat.reduceDiv, Nat.reduceMod, Int.reduceAdd, Int.reduceSub, Int.reduceMul, Int.reduceLT, Int.reduceLE, Int.reduceEq, Int.reduceNe, Int.reduceNeg, Int.reduceToNat, Int.reducePow, Int.reduceDiv, Int.reduceMod, dg_zero]
    rfl
end Go.Proofs.YtmjkhbjfacfmcaaGreatDoor.VX
end
section
namespace Go.Proofs.YtmjkhbjfacfmcaaGreatDoor.VX
open Go Go.RowKit Go.Proofs.YtmjkhbjfacfmcaaGreatDoor.NM Go.Proofs.YtmjkhbjfacfmcaaGreatDoor.NT Go.Proofs.YtmjkhbjfacfmcaaGreatDoor.RV IntWalk
set_option linter.unusedVariables false
set_option linter.unusedSimpArgs false
variable {X : Ctx}
abbrev strE (s : List UInt8) : E := .v (.sc (.string ⟨s.toArray⟩))
theorem chr_of (g : Nat) : strOf [(48 + (g : Int) % 10) % 256] = [UInt8.ofNat (48 + g % 10)] := by
  have e : (48 + (g : Int) % 10) % 256 = ((48 + g % 10 : Nat) : Int) := by omega
  rw [e]; unfold strOf; rw [List.map_cons, List.map_nil, Int.toNat_natCast]
theorem byte_chr (x : Int) : byteOk [x % 256] = True := eq_true fun n hn => by rw [List.mem_singleton.1 hn]; omega
theorem Text_l0R (L : List Int) (i : Nat) (hi : i + 1 < L.length) (hL : L.length ≤ 100000000000) (T : List UInt8) {Q : Ex → St → Prop} (hQ : ∀ S, En S [(0, .v (i64s L)), (3, strE T), (4, i64 i)] → Q (.x 2) S) :
    ∀ (r g k : Nat) (s : List UInt8) (S : St), r + k = 6 → g < 1000000 → s.length ≤ 1000000000000 + k → padr r g ++ s = T →
    En S [(0, .v (i64s L)), (3, strE s), (4, i64 i), (5, i64 g), (6, i64 k)] → wpC X F_waypointref01_Text_l0 Q S := by
  intro r
  induction r with
  | zero =>
    intro g k s S hk hg hs hT he
    obtain rfl : k = 6 := by omega
    rw [padr, List.nil_append] at hT
    subst hT
    simp only [En, and_true] at he
    refine wpC_round rfl ?_
    simp (disch := omega) only [sd_t, dec_t, dec_f, i64_in, u32_in, u64_in, i64_quo, u32_quo, u64_quo, rem_in, Int.toNat_of_nonneg, go_sem, reduceCtorEq, ↓reduceIte, Nat.reduceEqDiff, Nat.reduceAdd, Nat.reduceSub, Nat.reduceMul, Nat.reduceLT, Nat.reduceLeDiff, Nat.reduceBEq, Nat.reduceBNe, Nat.reducePow, Nat.reduceDiv, Nat.reduceMod, Int.reduceAdd, Int.reduceSub, Int.reduceMul, Int.reduceLT, Int.reduceLE, Int.reduceEq, Int.reduceNe, Int.reduceNeg, Int.reduceToNat, Int.reducePow, Int.reduceDiv, Int.reduceMod, F_waypointref01_Text_b0, he]
    refine hQ _ ?_
    simp only [go_sem, reduceCtorEq, ↓reduceIte, Nat.reduceEqDiff, Nat.reduceAdd, Nat.reduceSub, Nat.reduceMul, Nat.reduceLT, Nat.reduceLeDiff, Nat.reduceBEq, Nat.reduceBNe, Nat.reducePow, Nat.reduceDiv, Nat.reduceMod, Int.reduceAdd, Int.reduceSub, Int.reduceMul, Int.reduceLT, Int.reduceLE, Int.reduceEq, Int.reduceNe, Int.reduceNeg, Int.reduceToNat, Int.reducePow, Int.reduceDiv, Int.reduceMod, he]
  | succ r ih =>
    intro g k s S hk hg hs hT he
    rw [padr, List.append_assoc] at hT
    simp only [En, and_true] at he
    have e1 : ((g / 10 : Nat) : Int) = (g : Int) / 10 := by omega
    refine wpC_round rfl ?_
    simp (disch := omega) only [sd_t, dec_t, dec_f, i64_in, u32_in, u64_in, i64_quo, u32_quo, u64_quo, rem_in, Int.toNat_of_nonneg, go_sem, reduceCtorEq, ↓reduceIte, Nat.reduceEqDiff, Nat.reduceAdd, Nat.reduceSub, Nat.reduceMul, Nat.reduceLT, Nat.reduceLeDiff, Nat.reduceBEq, Nat.reduceBNe, Nat.reducePow, Nat.reduceDiv, Nat.reduceMod, Int.reduceAdd, Int.reduceSub, Int.reduceMul, Int.reduceLT, Int.reduceLE, Int.reduceEq, Int.reduceNe, Int.reduceNeg, Int.reduceToNat, Int.reducePow, Int.reduceDiv, Int.reduceMod, F_waypointref01_Text_b0, he, IntKind.wrap_u8, nums_one, chr_of, byte_chr, List.length_cons, List.length_nil]
    refine ih (g / 10) (k + 1) ([UInt8.ofNat (48 + g % 10)] ++ s) _ (by omega) (by omega) (by simp; omega) hT ?_
    simp only [go_sem, reduceCtorEq, ↓reduceIte, Nat.reduceEqDiff, Nat.reduceAdd, Nat.reduceSub, Nat.reduceMul, Nat.reduceLT, Nat.reduceLeDiff, Nat.reduceBEq, Nat.reduceBNe, Nat.reducePow, Nat.reduceDiv, Nat.reduceMod, Int.reduceAdd, Int.reduceSub, Int.reduceMul, Int.reduceLT, Int.reduceLE, Int.reduceEq, Int.reduceNe, Int.reduceNeg, Int.reduceToNat, Int.reducePow, Int.reduceDiv, Int.reduceMod, he, e1]
theorem Text_l0Rlast (L : List Int) (i : Nat) (hi : i + 1 = L.length) (hL : L.length ≤ 100000000000) (T : List UInt8) {Q : Ex → St → Prop} (hQ : ∀ S, En S [(0, .v (i64s L)), (3, strE T), (4, i64 i)] → Q (.x 2) S) :
    ∀ (r g k : Nat) (s : List UInt8) (S : St), r + k = 6 → g < 10 ^ r → s.length ≤ 1000000000000 + k → dec g ++ s = T →
    En S [(0, .v (i64s L)), (3, strE s), (4, i64 i), (5, i64 g), (6, i64 k)] → wpC X F_waypointref01_Text_l0 Q S := by
  intro r
  induction r with
  | zero =>
    intro g k s S hk hg hs hT he
    obtain rfl : k = 6 := by omega
    obtain rfl : g = 0 := by simpa using hg
    rw [dec_zero, List.nil_append] at hT
    subst hT
    simp only [En, and_true] at he
    refine wpC_round rfl ?_
    simp (disch := omega) only [sd_t, dec_t, dec_f, i64_in, u32_in, u64_in, i64_quo, u32_quo, u64_quo, rem_in, Int.toNat_of_nonneg, go_sem, reduceCtorEq, ↓reduceIte, Nat.reduceEqDiff, Nat.reduceAdd, Nat.reduceSub, Nat.reduceMul, Nat.reduceLT, Nat.reduceLeDiff, Nat.reduceBEq, Nat.reduceBNe, Nat.reducePow, Nat.reduceDiv, Nat.reduceMod, Int.reduceAdd, Int.reduceSub, Int.reduceMul, Int.reduceLT, Int.reduceLE, Int.reduceEq, Int.reduceNe, Int.reduceNeg, Int.reduceToNat, Int.reducePow, Int.reduceDiv, Int.reduceMod, F_waypointref01_Text_b0, he]
    refine hQ _ ?_
    simp only [go_sem, reduceCtorEq, ↓reduceIte, Nat.reduceEqDiff, Nat.reduceAdd, Nat.reduceSub, Nat.reduceMul, Nat.reduceLT, Nat.reduceLeDiff, Nat.reduceBEq, Nat.reduceBNe, Nat.reducePow, Nat.reduceDiv, Nat.reduceMod, Int.reduceAdd, Int.reduceSub, Int.reduceMul, Int.reduceLT, Int.reduceLE, Int.reduceEq, Int.reduceNe, Int.reduceNeg, Int.reduceToNat, Int.reducePow, Int.reduceDiv, Int.reduceMod, he]
  | succ r ih =>
    intro g k s S hk hg hs hT he
    have hg6 : g < 1000000 := Nat.lt_of_lt_of_le hg (Nat.pow_le_pow_right (n := 10) (j := 6) (by omega) (by omega))
    simp only [En, and_true] at he
    refine wpC_round rfl ?_
    rcases Nat.eq_zero_or_pos g with h0 | h0
    · subst h0
      rw [dec_zero, List.nil_append] at hT
      subst hT
      simp (disch := omega) only [sd_t, dec_t, dec_f, i64_in, u32_in, u64_in, i64_quo, u32_quo, u64_quo, rem_in, Int.toNat_of_nonneg, go_sem, reduceCtorEq, ↓reduceIte, Nat.reduceEqDiff, Nat.reduceAdd, Nat.reduceSub, Nat.reduceMul, Nat.reduceLT, Nat.reduceLeDiff, Nat.reduceBEq, Nat.reduceBNe, Nat.reducePow, Nat.reduceDiv, Nat.reduceMod, Int.reduceAdd, Int.reduceSub, Int.reduceMul, Int.reduceLT, Int.reduceLE, Int.reduceEq, Int.reduceNe, Int.reduceNeg, Int.reduceToNat, Int.reducePow, Int.reduceDiv, Int.reduceMod, F_waypointref01_Text_b0, he]
      refine hQ _ ?_
      simp only [go_sem, reduceCtorEq, ↓reduceIte, Nat.reduceEqDiff, Nat.reduceAdd, Nat.reduceSub, Nat.reduceMul, Nat.reduceLT, Nat.reduceLeDiff, Nat.reduceBEq, Nat.reduceBNe, Nat.reducePow, Nat.reduceDiv, Nat.reduceMod, Int.reduceAdd, Int.reduceSub, Int.reduceMul, Int.reduceLT, Int.reduceLE, Int.reduceEq, Int.reduceNe, Int.reduceNeg, Int.reduceToNat, Int.reducePow, Int.reduceDiv, Int.reduceMod, he]
    · rw [dec_step g h0, List.append_assoc] at hT
      have e1 : ((g / 10 : Nat) : Int) = (g : Int) / 10 := by omega
      simp (disch := omega) only [sd_t, dec_t, dec_f, i64_in, u32_in, u64_in, i64_quo, u32_quo, u64_quo, rem_in, Int.toNat_of_nonneg, go_sem, reduceCtorEq, ↓reduceIte, Nat.reduceEqDiff, Nat.reduceAdd, Nat.reduceSub, Nat.reduceMul, Nat.reduceLT, Nat.reduceLeDiff, Nat.reduceBEq, Nat.reduceBNe, Nat.reducePow, Nat.reduceDiv, Nat.reduceMod, Int.reduceAdd, Int.reduceSub, Int.reduceMul, Int.reduceLT, Int.reduceLE, Int.reduceEq, Int.reduceNe, Int.reduceNeg, Int.reduceToNat, Int.reducePow, Int.reduceDiv, Int.reduceMod, F_waypointref01_Text_b0, he, IntKind.wrap_u8, nums_one, chr_of, byte_chr, List.length_cons, List.length_nil]
      refine ih (g / 10) (k + 1) ([UInt8.ofNat (48 + g % 10)] ++ s) _ (by omega) (by rw [Nat.pow_succ] at hg; omega) (by simp; omega) hT ?_
      simp only [go_sem, reduceCtorEq, ↓reduceIte, Nat.reduceEqDiff, Nat.reduceAdd, Nat.reduceSub, Nat.reduceMul, Nat.reduceLT, Nat.reduceLeDiff, Nat.reduceBEq, Nat.reduceBNe, Nat.reducePow, Nat.reduceDiv, Nat.reduceMod, Int.reduceAdd, Int.reduceSub, Int.reduceMul, Int.reduceLT, Int.reduceLE, Int.reduceEq, Int.reduceNe, Int.reduceNeg, Int.reduceToNat, Int.reducePow, Int.reduceDiv, Int.reduceMod, he, e1]
theorem Text_l1R (L : List Int) (hL : L.length ≤ 100000000000) (T : List UInt8) {Q : Ex → St → Prop} (hQ : ∀ S, En S [(3, strE T)] → Q (.x 0) S) : ∀ (m i : Nat) (s : List UInt8) (S : St), 0 < m → i < L.length → L.drop i = dg 1000000 m → s.length ≤ 6 * i → dec m ++ s = T →
    En S [(0, .v (i64s L)), (3, strE s), (4, i64 i)] → wpC X F_waypointref01_Text_l1 Q S := by
  intro m
  induction m using Nat.strongRecOn with
  | _ m ih =>
    intro i s S hm hi hd hs hT he
    rw [List.drop_eq_getElem_cons hi, dg_pos (by omega) hm] at hd
    injection hd with hd1 hd2
    rw [← rd_nat L i hi] at hd1
    have hlen : (L.drop (i + 1)).length = (dg 1000000 (m / 1000000)).length := by rw [hd2]
    rw [List.length_drop] at hlen
    simp only [En, and_true] at he
    refine wpC_round rfl ?_
    simp (disch := omega) only [sd_t, dec_t, dec_f, i64_in, u32_in, u64_in, i64_quo, u32_quo, u64_quo, rem_in, Int.toNat_of_nonneg, go_sem, reduceCtorEq, ↓reduceIte, Nat.reduceEqDiff, Nat.reduceAdd, Nat.reduceSub, Nat.reduceMul, Nat.reduceLT, Nat.reduceLeDiff, Nat.reduceBEq, Nat.reduceBNe, Nat.reducePow, Nat.reduceDiv, Nat.reduceMod, Int.reduceAdd, Int.reduceSub, Int.reduceMul, Int.reduceLT, Int.reduceLE, Int.reduceEq, Int.reduceNe, Int.reduceNeg, Int.reduceToNat, Int.reducePow, Int.reduceDiv, Int.reduceMod, F_waypointref01_Text_b1, he, hd1]
    rcases Nat.eq_zero_or_pos (m / 1000000) with h0 | h0
    · have hmm : m % 1000000 = m := by omega
      rw [h0, dg_zero, List.length_nil] at hlen
      refine Text_l0Rlast L i (by omega) hL T ?_ 6 m 0 s _ (by omega) (by omega) (by omega) hT ?_
      · intro S he
        simp only [En, and_true] at he
        simp (disch := omega) only [sd_t, dec_t, dec_f, i64_in, u32_in, u64_in, i64_quo, u32_quo, u64_quo, rem_in, Int.toNat_of_nonneg, go_sem, reduceCtorEq, ↓reduceIte, Nat.reduceEqDiff, Nat.reduceAdd, Nat.reduceSub, Nat.reduceMul, Nat.reduceLT, Nat.reduceLeDiff, Nat.reduceBEq, Nat.reduceBNe, Nat.reducePow, Nat.reduceDiv, Nat.reduceMod, Int.reduceAdd, Int.reduceSub, Int.reduceMul, Int.reduceLT, Int.reduceLE, Int.reduceEq, Int.reduceNe, Int.reduceNeg, Int.reduceToNat, Int.reducePow, Int.reduceDiv, Int.reduceMod, F_waypointref01_Text_k0, he]
        refine wpC_round rfl ?_
        simp (disch := omega) only [sd_t, dec_t, dec_f, i64_in, u32_in, u64_in, i64_quo, u32_quo, u64_quo, rem_in, Int.toNat_of_nonneg, go_sem, reduceCtorEq, ↓reduceIte, Nat.reduceEqDiff, Nat.reduceAdd, Nat.reduceSub, Nat.reduceMul, Nat.reduceLT, Nat.reduceLeDiff, Nat.reduceBEq, Nat.reduceBNe, Nat.reducePow, Nat.reduceDiv, Nat.reduceMod, Int.reduceAdd, Int.reduceSub, Int.reduceMul, Int.reduceLT, Int.reduceLE, Int.reduceEq, Int.reduceNe, Int.reduceNeg, Int.reduceToNat, Int.reducePow, Int.reduceDiv, Int.reduceMod, F_waypointref01_Text_b1, he]
        refine hQ _ ?_
        simp only [go_sem, reduceCtorEq, ↓reduceIte, Nat.reduceEqDiff, Nat.reduceAdd, Nat.reduceSub, Nat.reduceMul, Nat.reduceLT, Nat.reduceLeDiff, Nat.reduceBEq, Nat.reduceBNe, Nat.reducePow, Nat.reduceDiv, Nat.reduceMod, Int.reduceAdd, Int.reduceSub, Int.reduceMul, Int.reduceLT, Int.reduceLE, Int.reduceEq, Int.reduceNe, Int.reduceNeg, Int.reduceToNat, Int.reducePow, Int.reduceDiv, Int.reduceMod, he]
      · simp only [go_sem, reduceCtorEq, ↓reduceIte, Nat.reduceEqDiff, Nat.reduceAdd, Nat.reduceSub, Nat.reduceMul, Nat.reduceLT, Nat.reduceLeDiff, Nat.reduceBEq, Nat.reduceBNe, Nat.reducePow, Nat.reduceDiv, Nat.reduceMod, Int.reduceAdd, Int.reduceSub, Int.reduceMul, Int.reduceLT, Int.reduceLE, Int.reduceEq, Int.reduceNe, Int.reduceNeg, Int.reduceToNat, Int.reducePow, Int.reduceDiv, Int.reduceMod, he, hmm]
    · have hne : 0 < (dg 1000000 (m / 1000000)).length := by rw [dg_pos (by omega) h0]; simp
      have hmod : m % 1000000 < 10 ^ 6 := Nat.mod_lt _ (by omega)
      have hpl : (padr 6 (m % 1000000)).length ≤ 6 := by
        rw [padr_eq 6 _ hmod, List.length_append, List.length_replicate]
        have := dec_le hmod
        omega
      have hsplit : dec m = dec (m / 1000000) ++ padr 6 (m % 1000000) := by
        have e : m = m % 1000000 + 10 ^ 6 * (m / 1000000) := (Nat.mod_add_div m 1000000).symm
        have h2 := dec_split h0 hmod
        rw [← e] at h2
        rw [h2, padr_eq 6 _ hmod]
      rw [hsplit, List.append_assoc] at hT
      refine Text_l0R L i (by omega) hL (padr 6 (m % 1000000) ++ s) ?_ 6 (m % 1000000) 0 s _ (by omega) (by omega) (by omega) rfl ?_
      · intro S he
        simp only [En, and_true] at he
        simp (disch := omega) only [sd_t, dec_t, dec_f, i64_in, u32_in, u64_in, i64_quo, u32_quo, u64_quo, rem_in, Int.toNat_of_nonneg, go_sem, reduceCtorEq, ↓reduceIte, Nat.reduceEqDiff, Nat.reduceAdd, Nat.reduceSub, Nat.reduceMul, Nat.reduceLT, Nat.reduceLeDiff, Nat.reduceBEq, Nat.reduceBNe, Nat.reducePow, Nat.reduceDiv, Nat.reduceMod, Int.reduceAdd, Int.reduceSub, Int.reduceMul, Int.reduceLT, Int.reduceLE, Int.reduceEq, Int.reduceNe, Int.reduceNeg, Int.reduceToNat, Int.reducePow, Int.reduceDiv, Int.reduceMod, F_waypointref01_Text_k0, he]
        refine ih (m / 1000000) (by omega) (i + 1) (padr 6 (m % 1000000) ++ s) _ h0 (by omega) hd2 (by rw [List.length_append]; omega) hT ?_
        simp only [go_sem, reduceCtorEq, ↓reduceIte, Nat.reduceEqDiff, Nat.reduceAdd, Nat.reduceSub, Nat.reduceMul, Nat.reduceLT, Nat.reduceLeDiff, Nat.reduceBEq, Nat.reduceBNe, Nat.reducePow, Nat.reduceDiv, Nat.reduceMod, Int.reduceAdd, Int.reduceSub, Int.reduceMul, Int.reduceLT, Int.reduceLE, Int.reduceEq, Int.reduceNe, Int.reduceNeg, Int.reduceToNat, Int.reducePow, Int.reduceDiv, Int.reduceMod, he]
      · simp only [go_sem, reduceCtorEq, ↓reduceIte, Nat.reduceEqDiff, Nat.reduceAdd, Nat.reduceSub, Nat.reduceMul, Nat.reduceLT, Nat.reduceLeDiff, Nat.reduceBEq, Nat.reduceBNe, Nat.reducePow, Nat.reduceDiv, Nat.reduceMod, Int.reduceAdd, Int.reduceSub, Int.reduceMul, Int.reduceLT, Int.reduceLE, Int.reduceEq, Int.reduceNe, Int.reduceNeg, Int.reduceToNat, Int.reducePow, Int.reduceDiv, Int.reduceMod, he]
theorem Text_fnR (hP : X.P = Tryz.prog) (n : Nat) (hl : (dg 1000000 n).length ≤ 100000000000) : Fn X 31 [i64s (dg 1000000 n)] (.sc (.string ⟨(txt n).toArray⟩)) := by
  refine W_waypointref01_Text hP rfl ?_
  rcases Nat.eq_zero_or_pos n with h0 | h0
  · subst h0
    simp (disch := omega) only [sd_t, dec_t, dec_f, i64_in, u32_in, u64_in, i64_quo, u32_quo, u64_quo, rem_in, Int.toNat_of_nonneg, go_sem, reduceCtorEq, ↓reduceIte, Nat.reduceEqDiff, Nat.reduceAdd, Nat.reduceSub, Nat.reduceMul, Nat.reduceLT, Nat.reduceLeDiff, Nat.reduceBEq, Nat.reduceBNe, Nat.reducePow, Nat.reduceDiv, Nat.reduceMod, Int.reduceAdd, Int.reduceSub, Int.reduceMul, Int.reduceLT, Int.reduceLE, Int.reduceEq, Int.reduceNe, Int.reduceNeg, Int.reduceToNat, Int.reducePow, Int.reduceDiv, Int.reduceMod, F_waypointref01_Text, R_waypointref01_Text, dg_zero, List.length_nil, txt_zero]
  · have hp : 0 < (dg 1000000 n).length := by rw [dg_pos (by omega) h0]; simp
    simp (disch := omega) only [sd_t, dec_t, dec_f, i64_in, u32_in, u64_in, i64_quo, u32_quo, u64_quo, rem_in, Int.toNat_of_nonneg, go_sem, reduceCtorEq, ↓reduceIte, Nat.reduceEqDiff, Nat.reduceAdd, Nat.reduceSub, Nat.reduceMul, Nat.reduceLT, Nat.reduceLeDiff, Nat.reduceBEq, Nat.reduceBNe, Nat.reducePow, Nat.reduceDiv, Nat.reduceMod, Int.reduceAdd, Int.reduceSub, Int.reduceMul, Int.reduceLT, Int.reduceLE, Int.reduceEq, Int.reduceNe, Int.reduceNeg, Int.reduceToNat, Int.reducePow, Int.reduceDiv, Int.reduceMod, F_waypointref01_Text]
    refine Text_l1R (dg 1000000 n) hl (txt n) ?_ n 0 [] _ h0 hp rfl (by simp) (by rw [txt_pos n h0, List.append_nil]) ?_
    · intro S he
      simp only [En, and_true] at he
      simp (disch := omega) only [sd_t, dec_t, dec_f, i64_in, u32_in, u64_in, i64_quo, u32_quo, u64_quo, rem_in, Int.toNat_of_nonneg, go_sem, reduceCtorEq, ↓reduceIte, Nat.reduceEqDiff, Nat.reduceAdd, Nat.reduceSub, Nat.reduceMul, Nat.reduceLT, Nat.reduceLeDiff, Nat.reduceBEq, Nat.reduceBNe, Nat.reducePow, Nat.reduceDiv, Nat.reduceMod, Int.reduceAdd, Int.reduceSub, Int.reduceMul, Int.reduceLT, Int.reduceLE, Int.reduceEq, Int.reduceNe, Int.reduceNeg, Int.reduceToNat, Int.reducePow, Int.reduceDiv, Int.reduceMod, F_waypointref01_Text_k1, R_waypointref01_Text, he]
    · simp only [go_sem, reduceCtorEq, ↓reduceIte, Nat.reduceEqDiff, Nat.reduceAdd, Nat.reduceSub, Nat.reduceMul, Nat.reduceLT, Nat.reduceLeDiff, Nat.reduceBEq, Nat.reduceBNe, Nat.reducePow, Nat.reduceDiv, Nat.reduceMod, Int.reduceAdd, Int.reduceSub, Int.reduceMul, Int.reduceLT, Int.reduceLE, Int.reduceEq, Int.reduceNe, Int.reduceNeg, Int.reduceToNat, Int.reducePow, Int.reduceDiv, Int.reduceMod]
end Go.Proofs.YtmjkhbjfacfmcaaGreatDoor.VX
end
section
namespace Go.Proofs.YtmjkhbjfacfmcaaGreatDoor.VX
open Go
set_option linter.unusedVariables false
def F_waypointlaw01_awake : C := (.seq (.reg [⟨some 0, none, [], [], .mov (.k (.sc (.bool false)))⟩]) (.seq (.reg [⟨some 7, none, [], [], .cp 16 [(.k (.sc (.int .u64 4294967296)))]⟩, ⟨some 1, none, [], [], .al 100 26 [(.sl 1 [])]⟩, ⟨none, none, [], [], .st 1 [] (.t 1) (.t 7)⟩]) (.seq (.reg [⟨some 9, none, [], [], .cp 16 [(.k (.sc (.int .u64 17)))]⟩, ⟨some 10, none, [], [], .cp 16 [(.k (.sc (.int .u64 5)))]⟩, ⟨some 11, none, [], [], .cp 9 [(.t 9), (.t 10)]⟩, ⟨some 8, none, [], [], .mov (.t 11)⟩, ⟨some 12, none, [], [], .ext (.t 8) 0⟩, ⟨some 13, none, [], [], .ext (.t 8) 1⟩, ⟨some 14, none, [], [], .ext (.t 8) 2⟩, ⟨some 2, none, [], [], .al 101 26 [(.sl 1 [])]⟩, ⟨some 3, none, [], [], .al 102 26 [(.sl 1 [])]⟩, ⟨none, none, [], [], .st 1 [] (.t 2) (.t 12)⟩, ⟨none, none, [], [], .st 1 [] (.t 3) (.t 13)⟩, ⟨some 4, none, [], [], .mov (.t 14)⟩]) (.seq (.reg [⟨some 16, none, [], [], .cp 27 [(.k (.sc (.string ⟨#[48, 48, 55]⟩)))]⟩, ⟨some 15, none, [], [], .mov (.t 16)⟩, ⟨some 17, none, [], [], .ext (.t 15) 0⟩, ⟨some 18, none, [], [], .ext (.t 15) 1⟩, ⟨some 5, none, [], [], .al 103 26 [(.sl 1 [])]⟩, ⟨none, none, [], [], .st 1 [] (.t 5) (.t 17)⟩, ⟨some 6, none, [], [], .mov (.t 18)⟩]) (.seq (.reg [⟨some 19, none, [], [], .ld 1 true (.t 1)⟩, ⟨some 20, none, [], [], .ld 1 true (.t 1)⟩, ⟨some 21, none, [], [], .cp 29 [(.t 19), (.t 20)]⟩, ⟨some 22, none, [], [], .cp 28 [(.t 21)]⟩, ⟨some 23, none, [], [], .bin .eql (.t 22) (.k (.sc (.string ⟨#[49, 56, 52, 52, 54, 55, 52, 52, 48, 55, 51, 55, 48, 57, 53, 53, 49, 54, 49, 54]⟩)))⟩, ⟨some 24, none, [], [], .mov (.t 23)⟩, ⟨some 25, (some (24, true)), [], [], .ld 1 true (.t 1)⟩, ⟨some 26, (some (24, true)), [], [], .ld 1 true (.t 1)⟩, ⟨some 27, (some (24, true)), [], [], .cp 29 [(.t 25), (.t 26)]⟩, ⟨some 28, (some (24, true)), [], [], .cp 18 [(.t 27)]⟩, ⟨some 29, (some (24, true)), [], [], .bin .eql (.t 28) (.k (.sc (.int .i64 65)))⟩, ⟨some 30, none, [], [], .pk (.t 24) (.t 29) (.k (.sc (.bool false)))⟩, ⟨some 31, none, [], [], .mov (.t 30)⟩, ⟨some 32, (some (31, true)), [], [], .mov (.t 4)⟩, ⟨some 33, (some (31, true)), [], [], .bin .eql (.t 32) (.k (.sc (.int .i64 0)))⟩, ⟨some 34, none, [], [], .pk (.t 31) (.t 33) (.k (.sc (.bool false)))⟩, ⟨some 35, none, [], [], .mov (.t 34)⟩, ⟨some 36, (some (35, true)), [], [], .ld 1 true (.t 2)⟩, ⟨some 37, (some (35, true)), [], [], .cp 28 [(.t 36)]⟩, ⟨some 38, (some (35, true)), [], [], .bin .eql (.t 37) (.k (.sc (.string ⟨#[51]⟩)))⟩, ⟨some 39, none, [], [], .pk (.t 35) (.t 38) (.k (.sc (.bool false)))⟩, ⟨some 40, none, [], [], .mov (.t 39)⟩, ⟨some 41, (some (40, true)), [], [], .ld 1 true (.t 3)⟩, ⟨some 42, (some (40, true)), [], [], .cp 28 [(.t 41)]⟩, ⟨some 43, (some (40, true)), [], [], .bin .eql (.t 42) (.k (.sc (.string ⟨#[50]⟩)))⟩, ⟨some 44, none, [], [], .pk (.t 40) (.t 43) (.k (.sc (.bool false)))⟩, ⟨some 45, none, [], [], .mov (.t 44)⟩, ⟨some 46, (some (45, true)), [], [], .cp 16 [(.k (.sc (.int .u64 12)))]⟩, ⟨some 47, (some (45, true)), [], [], .cp 16 [(.k (.sc (.int .u64 18)))]⟩, ⟨some 48, (some (45, true)), [], [], .cp 12 [(.t 46), (.t 47)]⟩, ⟨some 49, (some (45, true)), [], [], .cp 28 [(.t 48)]⟩, ⟨some 50, (some (45, true)), [], [], .bin .eql (.t 49) (.k (.sc (.string ⟨#[54]⟩)))⟩, ⟨some 51, none, [], [], .pk (.t 45) (.t 50) (.k (.sc (.bool false)))⟩, ⟨some 52, none, [], [], .mov (.t 51)⟩, ⟨some 53, (some (52, true)), [], [], .mov (.t 6)⟩, ⟨some 54, (some (52, true)), [], [], .bin .eql (.t 53) (.k (.sc (.int .i64 3)))⟩, ⟨some 55, none, [], [], .pk (.t 52) (.t 54) (.k (.sc (.bool false)))⟩, ⟨some 0, none, [], [], .mov (.t 55)⟩]) .ret)))))
def R_waypointlaw01_awake : List RV := [.t 0]
theorem C_waypointlaw01_awake : (chkC Tryz.prog Tryz.f6.ntmps F_waypointlaw01_awake (Tryz.f6.body.getD .skip) && chkRVs Tryz.prog R_waypointlaw01_awake Tryz.f6.results.toList && decide (R_waypointlaw01_awake.length ≤ 4) && decide (0 ≤ Tryz.f6.ntmps)) = true := by kernel_rfl
theorem W_waypointlaw01_awake {X : Ctx} (hP : X.P = Tryz.prog) {args : List V} {r : V} (hn : args.length = 0) (h : wpC X F_waypointlaw01_awake (retQ R_waypointlaw01_awake [] fun H e => H = noH ∧ e = .v r) ⟨argE 0 (args.map .v), noH⟩) : Fn X 6 args r := fn_of hP Tryz.func6 rfl C_waypointlaw01_awake hn h
def F_waypointlaw01_small : C := (.seq (.reg [⟨some 4, none, [], [], .mov (.k (.sc (.bool false)))⟩]) (.seq (.reg [⟨some 5, none, [], [], .mov (.t 0)⟩, ⟨some 6, none, [], [], .len false (.t 5)⟩, ⟨some 7, none, [], [], .bin .leq (.t 6) (.k (.sc (.int .i64 12)))⟩, ⟨some 8, none, [], [], .mov (.t 7)⟩, ⟨some 9, (some (8, true)), [], [], .mov (.t 1)⟩, ⟨some 10, (some (8, true)), [], [], .len false (.t 9)⟩, ⟨some 11, (some (8, true)), [], [], .bin .leq (.t 10) (.k (.sc (.int .i64 12)))⟩, ⟨some 12, none, [], [], .pk (.t 8) (.t 11) (.k (.sc (.bool false)))⟩, ⟨some 4, none, [], [], .mov (.t 12)⟩]) .ret))
def R_waypointlaw01_small : List RV := [.t 4]
theorem C_waypointlaw01_small : (chkC Tryz.prog Tryz.f7.ntmps F_waypointlaw01_small (Tryz.f7.body.getD .skip) && chkRVs Tryz.prog R_waypointlaw01_small Tryz.f7.results.toList && decide (R_waypointlaw01_small.length ≤ 4) && decide (2 ≤ Tryz.f7.ntmps)) = true := by kernel_rfl
theorem W_waypointlaw01_small {X : Ctx} (hP : X.P = Tryz.prog) {args : List V} {r : V} (hn : args.length = 2) (h : wpC X F_waypointlaw01_small (retQ R_waypointlaw01_small [] fun H e => H = noH ∧ e = .v r) ⟨argE 0 (args.map .v), noH⟩) : Fn X 7 args r := fn_of hP Tryz.func7 rfl C_waypointlaw01_small hn h
def F_waypointlaw01_number : C := (.seq (.reg [⟨some 2, none, [], [], .al 100 26 [(.sl 1 [])]⟩, ⟨some 3, none, [], [], .mov (.k (.sl 1 []))⟩]) (.seq (.reg [⟨some 7, none, [], [], .mov (.t 0)⟩, ⟨some 8, none, [], [], .cp 30 [(.t 7)]⟩, ⟨some 4, none, [], [], .mov (.t 8)⟩]) (.seq (.reg [⟨some 10, none, [], [], .mov (.t 4)⟩, ⟨some 11, none, [], [], .cp 31 [(.t 10)]⟩, ⟨some 12, none, [], [], .cp 27 [(.t 11)]⟩, ⟨some 9, none, [], [], .mov (.t 12)⟩, ⟨some 13, none, [], [], .ext (.t 9) 0⟩, ⟨some 14, none, [], [], .ext (.t 9) 1⟩, ⟨some 5, none, [], [], .al 101 26 [(.sl 1 [])]⟩, ⟨none, none, [], [], .st 1 [] (.t 5) (.t 13)⟩, ⟨some 6, none, [], [], .mov (.t 14)⟩]) (.seq (.reg [⟨some 15, none, [], [], .ld 1 true (.t 5)⟩, ⟨some 16, none, [], [], .mov (.t 4)⟩, ⟨none, none, [], [], .st 1 [] (.t 2) (.t 15)⟩, ⟨some 3, none, [], [], .mov (.t 16)⟩]) .ret))))
def R_waypointlaw01_number : List RV := [.c 2 1 true, .t 3]
theorem C_waypointlaw01_number : (chkC Tryz.prog Tryz.f8.ntmps F_waypointlaw01_number (Tryz.f8.body.getD .skip) && chkRVs Tryz.prog R_waypointlaw01_number Tryz.f8.results.toList && decide (R_waypointlaw01_number.length ≤ 4) && decide (1 ≤ Tryz.f8.ntmps)) = true := by kernel_rfl
theorem W_waypointlaw01_number {X : Ctx} (hP : X.P = Tryz.prog) {args : List V} {r : V} (hn : args.length = 1) (h : wpC X F_waypointlaw01_number (retQ R_waypointlaw01_number [] fun H e => H = noH ∧ e = .v r) ⟨argE 0 (args.map .v), noH⟩) : Fn X 8 args r := fn_of hP Tryz.func8 rfl C_waypointlaw01_number hn h
def F_waypointlaw01_is : C := (.seq (.reg [⟨some 2, none, [], [], .bx 100 26 (.t 0)⟩, ⟨some 4, none, [], [], .mov (.k (.sc (.bool false)))⟩]) (.seq (.reg [⟨some 5, none, [], [], .ld 1 true (.t 2)⟩, ⟨some 6, none, [], [], .cp 28 [(.t 5)]⟩, ⟨some 7, none, [], [], .mov (.t 1)⟩, ⟨some 8, none, [], [], .cp 31 [(.t 7)]⟩, ⟨some 9, none, [], [], .bin .eql (.t 6) (.t 8)⟩, ⟨some 4, none, [], [], .mov (.t 9)⟩]) .ret))
def R_waypointlaw01_is : List RV := [.t 4]
theorem C_waypointlaw01_is : (chkC Tryz.prog Tryz.f11.ntmps F_waypointlaw01_is (Tryz.f11.body.getD .skip) && chkRVs Tryz.prog R_waypointlaw01_is Tryz.f11.results.toList && decide (R_waypointlaw01_is.length ≤ 4) && decide (2 ≤ Tryz.f11.ntmps)) = true := by kernel_rfl
theorem W_waypointlaw01_is {X : Ctx} (hP : X.P = Tryz.prog) {args : List V} {r : V} (hn : args.length = 2) (h : wpC X F_waypointlaw01_is (retQ R_waypointlaw01_is [] fun H e => H = noH ∧ e = .v r) ⟨argE 0 (args.map .v), noH⟩) : Fn X 11 args r := fn_of hP Tryz.func11 rfl C_waypointlaw01_is hn h
def F_waypointlaw01_NatBits : C := (.seq (.reg [⟨some 4, none, [], [], .mov (.k (.sc (.bool false)))⟩]) (.seq (.seq (.reg [⟨some 13, none, [], [], .cp 6 []⟩, ⟨some 14, none, [], [], .un .not (.t 13)⟩]) (.cond (.t 14) (.seq (.reg [⟨some 4, none, [], [], .mov (.k (.sc (.bool false)))⟩]) .ret) .skip)) (.seq (.seq (.reg [⟨some 15, none, [], [], .mov (.t 1)⟩, ⟨some 16, none, [], [], .cp 7 [(.t 15), (.k (.sl 1 []))]⟩, ⟨some 17, none, [], [], .un .not (.t 16)⟩]) (.cond (.t 17) (.seq (.reg [⟨some 4, none, [], [], .mov (.k (.sc (.bool true)))⟩]) .ret) .skip)) (.seq (.reg [⟨some 19, none, [], [], .mov (.t 1)⟩, ⟨some 20, none, [], [], .cp 8 [(.t 19)]⟩, ⟨some 18, none, [], [], .mov (.t 20)⟩, ⟨some 21, none, [], [], .ext (.t 18) 0⟩, ⟨some 22, none, [], [], .ext (.t 18) 1⟩, ⟨some 5, none, [], [], .al 100 26 [(.sl 1 [])]⟩, ⟨none, none, [], [], .st 1 [] (.t 5) (.t 21)⟩, ⟨some 6, none, [], [], .mov (.t 22)⟩]) (.seq (.reg [⟨some 24, none, [], [], .ld 1 true (.t 5)⟩, ⟨some 25, none, [], [], .cp 14 [(.t 24)]⟩, ⟨some 23, none, [], [], .mov (.t 25)⟩, ⟨some 26, none, [], [], .ext (.t 23) 0⟩, ⟨some 27, none, [], [], .ext (.t 23) 1⟩, ⟨some 7, none, [], [], .mov (.t 26)⟩, ⟨some 8, none, [], [], .mov (.t 27)⟩]) (.seq (.reg [⟨some 29, none, [], [], .mov (.t 6)⟩, ⟨some 30, none, [], [], .cp 15 [(.t 29)]⟩, ⟨some 28, none, [], [], .mov (.t 30)⟩, ⟨some 31, none, [], [], .ext (.t 28) 0⟩, ⟨some 32, none, [], [], .ext (.t 28) 1⟩, ⟨some 9, none, [], [], .mov (.t 31)⟩, ⟨some 10, none, [], [], .mov (.t 32)⟩]) (.seq (.reg [⟨some 34, none, [], [], .mov (.t 0)⟩, ⟨some 35, none, [], [], .cp 16 [(.t 34)]⟩, ⟨some 36, none, [], [], .cp 14 [(.t 35)]⟩, ⟨some 33, none, [], [], .mov (.t 36)⟩, ⟨some 37, none, [], [], .ext (.t 33) 0⟩, ⟨some 38, none, [], [], .ext (.t 33) 1⟩, ⟨some 11, none, [], [], .mov (.t 37)⟩, ⟨some 12, none, [], [], .mov (.t 38)⟩]) (.seq (.reg [⟨some 39, none, [], [], .mov (.t 0)⟩, ⟨some 40, none, [], [], .cp 16 [(.t 39)]⟩, ⟨some 41, none, [], [], .mov (.t 0)⟩, ⟨some 42, none, [], [], .cp 17 [(.t 41)]⟩, ⟨some 43, none, [], [], .cp 11 [(.t 40), (.t 42)]⟩, ⟨some 44, none, [], [], .mov (.t 43)⟩, ⟨some 45, (some (44, true)), [], [], .mov (.t 11)⟩, ⟨some 46, (some (44, true)), [], [], .mov (.t 0)⟩, ⟨some 47, (some (44, true)), [], [], .bin .eql (.t 45) (.t 46)⟩, ⟨some 48, none, [], [], .pk (.t 44) (.t 47) (.k (.sc (.bool false)))⟩, ⟨some 49, none, [], [], .mov (.t 48)⟩, ⟨some 50, (some (49, true)), [], [], .mov (.t 12)⟩, ⟨some 51, none, [], [], .pk (.t 49) (.t 50) (.k (.sc (.bool false)))⟩, ⟨some 52, none, [], [], .mov (.t 51)⟩, ⟨some 53, (some (52, true)), [], [], .mov (.t 0)⟩, ⟨some 54, (some (52, true)), [], [], .cp 16 [(.t 53)]⟩, ⟨some 55, (some (52, true)), [], [], .cp 18 [(.t 54)]⟩, ⟨some 56, (some (52, true)), [], [], .mov (.t 0)⟩, ⟨some 57, (some (52, true)), [], [], .cp 17 [(.t 56)]⟩, ⟨some 58, (some (52, true)), [], [], .cp 19 [(.t 57)]⟩, ⟨some 59, (some (52, true)), [], [], .bin .eql (.t 55) (.t 58)⟩, ⟨some 60, none, [], [], .pk (.t 52) (.t 59) (.k (.sc (.bool false)))⟩, ⟨some 61, none, [], [], .mov (.t 60)⟩, ⟨some 62, (some (61, true)), [], [], .mov (.t 7)⟩, ⟨some 63, (some (61, true)), [], [], .mov (.t 9)⟩, ⟨some 64, (some (61, true)), [], [], .bin .eql (.t 62) (.t 63)⟩, ⟨some 65, none, [], [], .pk (.t 61) (.t 64) (.k (.sc (.bool false)))⟩, ⟨some 66, none, [], [], .mov (.t 65)⟩, ⟨some 67, (some (66, true)), [], [], .mov (.t 8)⟩, ⟨some 68, (some (66, true)), [], [], .mov (.t 10)⟩, ⟨some 69, (some (66, true)), [], [], .beq false (.t 67) (.t 68)⟩, ⟨some 70, none, [], [], .pk (.t 66) (.t 69) (.k (.sc (.bool false)))⟩, ⟨some 71, none, [], [], .mov (.t 70)⟩, ⟨some 72, (some (71, true)), [], [], .ld 1 true (.t 5)⟩, ⟨some 73, (some (71, true)), [], [], .cp 18 [(.t 72)]⟩, ⟨some 74, (some (71, true)), [], [], .mov (.t 6)⟩, ⟨some 75, (some (71, true)), [], [], .cp 19 [(.t 74)]⟩, ⟨some 76, (some (71, true)), [], [], .bin .eql (.t 73) (.t 75)⟩, ⟨some 77, none, [], [], .pk (.t 71) (.t 76) (.k (.sc (.bool false)))⟩, ⟨some 78, none, [], [], .mov (.t 77)⟩, ⟨some 79, (some (78, true)), [], [], .ld 1 true (.t 5)⟩, ⟨some 80, (some (78, true)), [], [], .cp 20 [(.t 79)]⟩, ⟨some 81, (some (78, true)), [], [], .mov (.t 6)⟩, ⟨some 82, (some (78, true)), [], [], .len false (.t 81)⟩, ⟨some 83, (some (78, true)), [], [], .bin .eql (.t 82) (.k (.sc (.int .i64 0)))⟩, ⟨some 84, (some (78, true)), [], [], .beq false (.t 80) (.t 83)⟩, ⟨some 85, none, [], [], .pk (.t 78) (.t 84) (.k (.sc (.bool false)))⟩, ⟨some 86, none, [], [], .mov (.t 85)⟩, ⟨some 87, (some (86, true)), [], [], .mov (.t 0)⟩, ⟨some 88, (some (86, true)), [], [], .cp 16 [(.t 87)]⟩, ⟨some 89, (some (86, true)), [], [], .cp 20 [(.t 88)]⟩, ⟨some 90, (some (86, true)), [], [], .mov (.t 0)⟩, ⟨some 91, (some (86, true)), [], [], .bin .eql (.t 90) (.k (.sc (.int .u64 0)))⟩, ⟨some 92, (some (86, true)), [], [], .beq false (.t 89) (.t 91)⟩, ⟨some 93, none, [], [], .pk (.t 86) (.t 92) (.k (.sc (.bool false)))⟩, ⟨some 4, none, [], [], .mov (.t 93)⟩]) .ret))))))))
def R_waypointlaw01_NatBits : List RV := [.t 4]
theorem C_waypointlaw01_NatBits : (chkC Tryz.prog Tryz.f4.ntmps F_waypointlaw01_NatBits (Tryz.f4.body.getD .skip) && chkRVs Tryz.prog R_waypointlaw01_NatBits Tryz.f4.results.toList && decide (R_waypointlaw01_NatBits.length ≤ 4) && decide (2 ≤ Tryz.f4.ntmps)) = true := by kernel_rfl
theorem W_waypointlaw01_NatBits {X : Ctx} (hP : X.P = Tryz.prog) {args : List V} {r : V} (hn : args.length = 2) (h : wpC X F_waypointlaw01_NatBits (retQ R_waypointlaw01_NatBits [] fun H e => H = noH ∧ e = .v r) ⟨argE 0 (args.map .v), noH⟩) : Fn X 4 args r := fn_of hP Tryz.func4 rfl C_waypointlaw01_NatBits hn h
end Go.Proofs.YtmjkhbjfacfmcaaGreatDoor.VX
end
section
namespace Go.Proofs.YtmjkhbjfacfmcaaGreatDoor.VX
open Go Go.RowKit Go.Proofs.YtmjkhbjfacfmcaaGreatDoor.NM Go.Proofs.YtmjkhbjfacfmcaaGreatDoor.NT Go.Proofs.YtmjkhbjfacfmcaaGreatDoor.RV IntWalk
set_option linter.unusedVariables false
set_option linter.unusedSimpArgs false
variable {X : Ctx}
theorem pow_grow {a b : Nat} (c k : Nat) (h : a ≤ b ^ c) : a ^ k ≤ b ^ (c * k) := by
  rw [Nat.pow_mul]; exact Nat.pow_le_pow_left h k
def Sz (k n : Nat) : Prop := n < 4294967296 ^ k
theorem Sz.d32 {k n : Nat} (h : Sz k n) : (dg 4294967296 n).length ≤ k := dg_length (by omega) h
theorem Sz.d6 {k n : Nat} (h : Sz k n) : (dg 1000000 n).length ≤ 2 * k := dg_length (by omega) (Nat.lt_of_lt_of_le h (pow_grow 2 k (by omega)))
theorem Sz.txt {k n : Nat} (h : Sz k n) (hk : 1 ≤ k) : (txt n).length ≤ 10 * k := (txt_le (by omega) (Nat.lt_of_lt_of_le h (pow_grow 10 k (by omega)))).2
theorem Sz.mono {k m n : Nat} (h : Sz k n) (hkm : k ≤ m) : Sz m n := Nat.lt_of_lt_of_le h (Nat.pow_le_pow_right (by omega) hkm)
theorem Sz.mul {k m a b : Nat} (h : Sz k a) (g : Sz m b) : Sz (k + m) (a * b) := by
  unfold Sz at *
  rw [Nat.pow_add]
  exact Nat.mul_lt_mul'' h g
theorem Sz.add {k a b : Nat} (h : Sz k a) (g : Sz k b) : Sz (k + 1) (a + b) := by
  unfold Sz at *
  rw [Nat.pow_succ]
  generalize 4294967296 ^ k = P at *
  omega
theorem Sz.small {n : Nat} (h : n < 18446744073709551616) : Sz 2 n := h
theorem num_sz {l : List Int} (hl : Dig 4294967296 l) {k : Nat} (hk : l.length ≤ k) : Sz k (num l) := Sz.mono (num_lt hl) hk
theorem txt_good (n : Nat) : Digits (txt n) ∧ txt n ≠ [] ∧ ∀ c r, txt n = c :: r → c.toNat = 48 → r = [] := by
  refine ⟨digits_txt n, ?_, ?_⟩
  · rcases Nat.eq_zero_or_pos n with h0 | h0
    · subst h0; rw [txt_zero]; simp
    · rw [txt_pos n h0]
      obtain ⟨c, l, h1, _⟩ := dec_head n h0
      rw [h1]; simp
  · intro c r e hc
    rcases Nat.eq_zero_or_pos n with h0 | h0
    · subst h0; rw [txt_zero] at e; cases e; rfl
    · rw [txt_pos n h0] at e
      obtain ⟨c', l, h1, h2⟩ := dec_head n h0
      rw [h1] at e; cases e; exact absurd hc h2
theorem Parse_txt (hL : LibS X) (n : Nat) (h : (txt n).length ≤ 1000) : Fn X 27 [vs (txt n)] (.tu [nat (dg 4294967296 n), vi .i64 0]) := by
  obtain ⟨h1, h2, h3⟩ := txt_good n
  have := Parse_ok hL (txt n) h1 h2 h3 h
  rwa [pv_txt] at this
theorem IsZero_pos (hP : X.P = Tryz.prog) {n : Nat} (h : 0 < n) : Fn X 20 [nat (dg 4294967296 n)] (.sc (.bool false)) := by
  have := IsZero_fn hP (dg 4294967296 n)
  have hp := dg_len_pos h
  rwa [decide_eq_false (by omega)] at this
theorem IsZero_0 (hP : X.P = Tryz.prog) : Fn X 20 [nat (dg 4294967296 0)] (.sc (.bool true)) := by
  have := IsZero_fn hP (dg 4294967296 0)
  rwa [decide_eq_true (by rw [dg_zero]; rfl)] at this
theorem number_fn (hL : LibS X) (l : List Int) (hl : Dig 4294967296 l) (hn : l.length ≤ 12) : Fn X 8 [u32s l] (.tu [nat (dg 4294967296 (num l)), i64s (dg 1000000 (num l))]) := by
  have hs := num_sz hl hn
  have h1 := hs.d6
  have h2 := hs.txt (by omega)
  refine W_waypointlaw01_number hL.P rfl ?_
  simp (disch := omega) only [sd_t, dec_t, dec_f, i64_in, u32_in, u64_in, i64_quo, u32_quo, u64_quo, rem_in, Int.toNat_of_nonneg, go_sem, reduceCtorEq, ↓reduceIte, Nat.reduceEqDiff, Nat.reduceAdd, Nat.reduceSub, Nat.reduceMul, Nat.reduceLT, Nat.reduceLeDiff, Nat.reduceBEq, Nat.reduceBNe, Nat.reducePow, Nat.reduceDiv, Nat.reduceMod, Int.reduceAdd, Int.reduceSub, Int.reduceMul, Int.reduceLT, Int.reduceLE, Int.reduceEq, Int.reduceNe, Int.reduceNeg, Int.reduceToNat, Int.reducePow, Int.reduceDiv, Int.reduceMod, F_waypointlaw01_number, R_waypointlaw01_number]
  refine cp_of (Make_fnR hL.P l hl (by omega)) rfl ?_
  simp (disch := omega) only [sd_t, dec_t, dec_f, i64_in, u32_in, u64_in, i64_quo, u32_quo, u64_quo, rem_in, Int.toNat_of_nonneg, go_sem, reduceCtorEq, ↓reduceIte, Nat.reduceEqDiff, Nat.reduceAdd, Nat.reduceSub, Nat.reduceMul, Nat.reduceLT, Nat.reduceLeDiff, Nat.reduceBEq, Nat.reduceBNe, Nat.reducePow, Nat.reduceDiv, Nat.reduceMod, Int.reduceAdd, Int.reduceSub, Int.reduceMul, Int.reduceLT, Int.reduceLE, Int.reduceEq, Int.reduceNe, Int.reduceNeg, Int.reduceToNat, Int.reducePow, Int.reduceDiv, Int.reduceMod]
  refine cp_of (Text_fnR hL.P (num l) (by omega)) rfl ?_
  simp (disch := omega) only [sd_t, dec_t, dec_f, i64_in, u32_in, u64_in, i64_quo, u32_quo, u64_quo, rem_in, Int.toNat_of_nonneg, go_sem, reduceCtorEq, ↓reduceIte, Nat.reduceEqDiff, Nat.reduceAdd, Nat.reduceSub, Nat.reduceMul, Nat.reduceLT, Nat.reduceLeDiff, Nat.reduceBEq, Nat.reduceBNe, Nat.reducePow, Nat.reduceDiv, Nat.reduceMod, Int.reduceAdd, Int.reduceSub, Int.reduceMul, Int.reduceLT, Int.reduceLE, Int.reduceEq, Int.reduceNe, Int.reduceNeg, Int.reduceToNat, Int.reducePow, Int.reduceDiv, Int.reduceMod]
  refine cp_of (Parse_txt hL (num l) (by omega)) rfl ?_
  simp (disch := omega) only [sd_t, dec_t, dec_f, i64_in, u32_in, u64_in, i64_quo, u32_quo, u64_quo, rem_in, Int.toNat_of_nonneg, go_sem, reduceCtorEq, ↓reduceIte, Nat.reduceEqDiff, Nat.reduceAdd, Nat.reduceSub, Nat.reduceMul, Nat.reduceLT, Nat.reduceLeDiff, Nat.reduceBEq, Nat.reduceBNe, Nat.reducePow, Nat.reduceDiv, Nat.reduceMod, Int.reduceAdd, Int.reduceSub, Int.reduceMul, Int.reduceLT, Int.reduceLE, Int.reduceEq, Int.reduceNe, Int.reduceNeg, Int.reduceToNat, Int.reducePow, Int.reduceDiv, Int.reduceMod]
theorem is_fn (hL : LibS X) {n k : Nat} (h : Sz k n) (hk : k ≤ 100000) : Fn X 11 [nat (dg 4294967296 n), i64s (dg 1000000 n)] (.sc (.bool true)) := by
  have h1 := h.d6
  have h2 := h.d32
  refine W_waypointlaw01_is hL.P rfl ?_
  simp (disch := omega) only [sd_t, dec_t, dec_f, i64_in, u32_in, u64_in, i64_quo, u32_quo, u64_quo, rem_in, Int.toNat_of_nonneg, go_sem, reduceCtorEq, ↓reduceIte, Nat.reduceEqDiff, Nat.reduceAdd, Nat.reduceSub, Nat.reduceMul, Nat.reduceLT, Nat.reduceLeDiff, Nat.reduceBEq, Nat.reduceBNe, Nat.reducePow, Nat.reduceDiv, Nat.reduceMod, Int.reduceAdd, Int.reduceSub, Int.reduceMul, Int.reduceLT, Int.reduceLE, Int.reduceEq, Int.reduceNe, Int.reduceNeg, Int.reduceToNat, Int.reducePow, Int.reduceDiv, Int.reduceMod, F_waypointlaw01_is, R_waypointlaw01_is]
  refine cp_of (Text_fn hL n (by omega)) rfl ?_
  simp (disch := omega) only [sd_t, dec_t, dec_f, i64_in, u32_in, u64_in, i64_quo, u32_quo, u64_quo, rem_in, Int.toNat_of_nonneg, go_sem, reduceCtorEq, ↓reduceIte, Nat.reduceEqDiff, Nat.reduceAdd, Nat.reduceSub, Nat.reduceMul, Nat.reduceLT, Nat.reduceLeDiff, Nat.reduceBEq, Nat.reduceBNe, Nat.reducePow, Nat.reduceDiv, Nat.reduceMod, Int.reduceAdd, Int.reduceSub, Int.reduceMul, Int.reduceLT, Int.reduceLE, Int.reduceEq, Int.reduceNe, Int.reduceNeg, Int.reduceToNat, Int.reducePow, Int.reduceDiv, Int.reduceMod]
  refine cp_of (Text_fnR hL.P n (by omega)) rfl ?_
  simp (disch := omega) only [sd_t, dec_t, dec_f, i64_in, u32_in, u64_in, i64_quo, u32_quo, u64_quo, rem_in, Int.toNat_of_nonneg, go_sem, reduceCtorEq, ↓reduceIte, Nat.reduceEqDiff, Nat.reduceAdd, Nat.reduceSub, Nat.reduceMul, Nat.reduceLT, Nat.reduceLeDiff, Nat.reduceBEq, Nat.reduceBNe, Nat.reducePow, Nat.reduceDiv, Nat.reduceMod, Int.reduceAdd, Int.reduceSub, Int.reduceMul, Int.reduceLT, Int.reduceLE, Int.reduceEq, Int.reduceNe, Int.reduceNeg, Int.reduceToNat, Int.reducePow, Int.reduceDiv, Int.reduceMod]
theorem small_fn (hP : X.P = Tryz.prog) (a b : List Int) : Fn X 7 [u32s a, u32s b] (.sc (.bool (decide (a.length ≤ 12 ∧ b.length ≤ 12)))) := by
  refine W_waypointlaw01_small hP rfl ?_
  by_cases h1 : a.length ≤ 12
  · by_cases h2 : b.length ≤ 12
    · rw [decide_eq_true ⟨h1, h2⟩]
      simp (disch := omega) only [sd_t, dec_t, dec_f, i64_in, u32_in, u64_in, i64_quo, u32_quo, u64_quo, rem_in, Int.toNat_of_nonneg, go_sem, reduceCtorEq, ↓reduceIte, Nat.reduceEqDiff, Nat.reduceAdd, Nat.reduceSub, Nat.reduceMul, Nat.reduceLT, Nat.reduceLeDiff, Nat.reduceBEq, Nat.reduceBNe, Nat.reducePow, Nat.reduceDiv, Nat.reduceMod, Int.reduceAdd, Int.reduceSub, Int.reduceMul, Int.reduceLT, Int.reduceLE, Int.reduceEq, Int.reduceNe, Int.reduceNeg, Int.reduceToNat, Int.reducePow, Int.reduceDiv, Int.reduceMod, F_waypointlaw01_small, R_waypointlaw01_small]
    · rw [decide_eq_false (by omega)]
      simp (disch := omega) only [sd_t, dec_t, dec_f, i64_in, u32_in, u64_in, i64_quo, u32_quo, u64_quo, rem_in, Int.toNat_of_nonneg, go_sem, reduceCtorEq, ↓reduceIte, Nat.reduceEqDiff, Nat.reduceAdd, Nat.reduceSub, Nat.reduceMul, Nat.reduceLT, Nat.reduceLeDiff, Nat.reduceBEq, Nat.reduceBNe, Nat.reducePow, Nat.reduceDiv, Nat.reduceMod, Int.reduceAdd, Int.reduceSub, Int.reduceMul, Int.reduceLT, Int.reduceLE, Int.reduceEq, Int.reduceNe, Int.reduceNeg, Int.reduceToNat, Int.reducePow, Int.reduceDiv, Int.reduceMod, F_waypointlaw01_small, R_waypointlaw01_small]
  · rw [decide_eq_false (by omega)]
    simp (disch := omega) only [sd_t, dec_t, dec_f, i64_in, u32_in, u64_in, i64_quo, u32_quo, u64_quo, rem_in, Int.toNat_of_nonneg, go_sem, reduceCtorEq, ↓reduceIte, Nat.reduceEqDiff, Nat.reduceAdd, Nat.reduceSub, Nat.reduceMul, Nat.reduceLT, Nat.reduceLeDiff, Nat.reduceBEq, Nat.reduceBNe, Nat.reducePow, Nat.reduceDiv, Nat.reduceMod, Int.reduceAdd, Int.reduceSub, Int.reduceMul, Int.reduceLT, Int.reduceLE, Int.reduceEq, Int.reduceNe, Int.reduceNeg, Int.reduceToNat, Int.reducePow, Int.reduceDiv, Int.reduceMod, F_waypointlaw01_small, R_waypointlaw01_small]
theorem lit_txt (l : List UInt8) (n : Nat) (hv : pv 0 l = n) (hd : Digits l) (h0 : l ≠ []) (h1 : ∀ c r, l = c :: r → c.toNat = 48 → r = []) : txt n = l := by rw [← hv]; exact txt_pv hd h0 h1
theorem one_txt (c : UInt8) (h : 48 ≤ c.toNat ∧ c.toNat ≤ 57) : txt (dval c) = [c] := by
  have := txt_pv (l := [c]) (fun x hx => by rw [List.mem_singleton.1 hx]; exact h) (by simp) (fun c' r e _ => by injection e with _ e; exact e.symm)
  rw [pv_cons, pv_nil] at this
  rw [← this]; simp
theorem txt_big : txt 18446744073709551616 = [49, 56, 52, 52, 54, 55, 52, 52, 48, 55, 51, 55, 48, 57, 53, 53, 49, 54, 49, 54] := by
  refine lit_txt _ _ (by decide +kernel) ?_ (by simp) ?_
  · have : ∀ c ∈ ([49, 56, 52, 52, 54, 55, 52, 52, 48, 55, 51, 55, 48, 57, 53, 53, 49, 54, 49, 54] : List UInt8), 48 ≤ c.toNat ∧ c.toNat ≤ 57 := by decide +kernel
    exact this
  · intro c r e hc
    injection e with e1 e2
    subst e1
    exact absurd hc (by decide)
theorem txt_3 : txt 3 = [51] := one_txt 51 (by decide)
theorem txt_2 : txt 2 = [50] := one_txt 50 (by decide)
theorem txt_6 : txt 6 = [54] := one_txt 54 (by decide)
theorem bits_big : nbits 18446744073709551616 = 65 := nbits_of (k := 64) (by decide +kernel) (by decide +kernel)
theorem gcd_ex : Nat.gcd 12 18 = 6 := by decide +kernel
theorem small_len {n : Nat} (h : n < 4294967296) : (dg 4294967296 n).length ≤ 1 := dg_length (by omega) (by omega)
theorem awake_fn (hL : LibS X) : Fn X 6 [] (.sc (.bool true)) := by
  have hbig : (dg 4294967296 18446744073709551616).length ≤ 3 := dg_length (by omega) (by decide +kernel)
  have h32 : (dg 4294967296 4294967296).length ≤ 2 := dg_length (by omega) (by decide +kernel)
  have h17 := small_len (n := 17) (by omega)
  have h12 := small_len (n := 12) (by omega)
  have h18 := small_len (n := 18) (by omega)
  have h3 := small_len (n := 3) (by omega)
  have h2 := small_len (n := 2) (by omega)
  have h6 := small_len (n := 6) (by omega)
  have hdm := DivMod_fn hL.toLibN 17 5 (by omega) (by omega)
  have hmul := Mul_fn hL.P 4294967296 4294967296 (by omega)
  have hg := GCD_fn hL.toLibN 12 18 (by omega) (by omega)
  rw [gcd_ex] at hg
  have hb := Bits_fn hL.toLibN 18446744073709551616 (by omega)
  rw [bits_big] at hb
  have t1 := Text_fn hL 18446744073709551616 (by omega)
  rw [txt_big] at t1
  have t2 := Text_fn hL 3 (by omega)
  rw [txt_3] at t2
  have t3 := Text_fn hL 2 (by omega)
  rw [txt_2] at t3
  have t4 := Text_fn hL 6 (by omega)
  rw [txt_6] at t4
  refine W_waypointlaw01_awake hL.P rfl ?_
  simp (disch := omega) only [sd_t, dec_t, dec_f, i64_in, u32_in, u64_in, i64_quo, u32_quo, u64_quo, rem_in, Int.toNat_of_nonneg, go_sem, reduceCtorEq, ↓reduceIte, Nat.reduceEqDiff, Nat.reduceAdd, Nat.reduceSub, Nat.reduceMul, Nat.reduceLT, Nat.reduceLeDiff, Nat.reduceBEq, Nat.reduceBNe, Nat.reducePow, Nat.reduceDiv, Nat.reduceMod, Int.reduceAdd, Int.reduceSub, Int.reduceMul, Int.reduceLT, Int.reduceLE, Int.reduceEq, Int.reduceNe, Int.reduceNeg, Int.reduceToNat, Int.reducePow, Int.reduceDiv, Int.reduceMod, F_waypointlaw01_awake, R_waypointlaw01_awake]
  refine cp_of (Of_fn hL.P 4294967296 (by omega)) rfl ?_
  simp (disch := omega) only [sd_t, dec_t, dec_f, i64_in, u32_in, u64_in, i64_quo, u32_quo, u64_quo, rem_in, Int.toNat_of_nonneg, go_sem, reduceCtorEq, ↓reduceIte, Nat.reduceEqDiff, Nat.reduceAdd, Nat.reduceSub, Nat.reduceMul, Nat.reduceLT, Nat.reduceLeDiff, Nat.reduceBEq, Nat.reduceBNe, Nat.reducePow, Nat.reduceDiv, Nat.reduceMod, Int.reduceAdd, Int.reduceSub, Int.reduceMul, Int.reduceLT, Int.reduceLE, Int.reduceEq, Int.reduceNe, Int.reduceNeg, Int.reduceToNat, Int.reducePow, Int.reduceDiv, Int.reduceMod]
  refine cp_of (Of_fn hL.P 17 (by omega)) rfl ?_
  simp (disch := omega) only [sd_t, dec_t, dec_f, i64_in, u32_in, u64_in, i64_quo, u32_quo, u64_quo, rem_in, Int.toNat_of_nonneg, go_sem, reduceCtorEq, ↓reduceIte, Nat.reduceEqDiff, Nat.reduceAdd, Nat.reduceSub, Nat.reduceMul, Nat.reduceLT, Nat.reduceLeDiff, Nat.reduceBEq, Nat.reduceBNe, Nat.reducePow, Nat.reduceDiv, Nat.reduceMod, Int.reduceAdd, Int.reduceSub, Int.reduceMul, Int.reduceLT, Int.reduceLE, Int.reduceEq, Int.reduceNe, Int.reduceNeg, Int.reduceToNat, Int.reducePow, Int.reduceDiv, Int.reduceMod]
  refine cp_of (Of_fn hL.P 5 (by omega)) rfl ?_
  simp (disch := omega) only [sd_t, dec_t, dec_f, i64_in, u32_in, u64_in, i64_quo, u32_quo, u64_quo, rem_in, Int.toNat_of_nonneg, go_sem, reduceCtorEq, ↓reduceIte, Nat.reduceEqDiff, Nat.reduceAdd, Nat.reduceSub, Nat.reduceMul, Nat.reduceLT, Nat.reduceLeDiff, Nat.reduceBEq, Nat.reduceBNe, Nat.reducePow, Nat.reduceDiv, Nat.reduceMod, Int.reduceAdd, Int.reduceSub, Int.reduceMul, Int.reduceLT, Int.reduceLE, Int.reduceEq, Int.reduceNe, Int.reduceNeg, Int.reduceToNat, Int.reducePow, Int.reduceDiv, Int.reduceMod]
  refine cp_of (hdm) rfl ?_
  simp (disch := omega) only [sd_t, dec_t, dec_f, i64_in, u32_in, u64_in, i64_quo, u32_quo, u64_quo, rem_in, Int.toNat_of_nonneg, go_sem, reduceCtorEq, ↓reduceIte, Nat.reduceEqDiff, Nat.reduceAdd, Nat.reduceSub, Nat.reduceMul, Nat.reduceLT, Nat.reduceLeDiff, Nat.reduceBEq, Nat.reduceBNe, Nat.reducePow, Nat.reduceDiv, Nat.reduceMod, Int.reduceAdd, Int.reduceSub, Int.reduceMul, Int.reduceLT, Int.reduceLE, Int.reduceEq, Int.reduceNe, Int.reduceNeg, Int.reduceToNat, Int.reducePow, Int.reduceDiv, Int.reduceMod]
  refine cp_of (Parse_syn hL [48, 48, 55] (by simp) (fun h => absurd (h.2.2 48 [48, 55] rfl (by decide)) (by simp))) rfl ?_
  simp (disch := omega) only [sd_t, dec_t, dec_f, i64_in, u32_in, u64_in, i64_quo, u32_quo, u64_quo, rem_in, Int.toNat_of_nonneg, go_sem, reduceCtorEq, ↓reduceIte, Nat.reduceEqDiff, Nat.reduceAdd, Nat.reduceSub, Nat.reduceMul, Nat.reduceLT, Nat.reduceLeDiff, Nat.reduceBEq, Nat.reduceBNe, Nat.reducePow, Nat.reduceDiv, Nat.reduceMod, Int.reduceAdd, Int.reduceSub, Int.reduceMul, Int.reduceLT, Int.reduceLE, Int.reduceEq, Int.reduceNe, Int.reduceNeg, Int.reduceToNat, Int.reducePow, Int.reduceDiv, Int.reduceMod]
  refine cp_of (hmul) rfl ?_
  simp (disch := omega) only [sd_t, dec_t, dec_f, i64_in, u32_in, u64_in, i64_quo, u32_quo, u64_quo, rem_in, Int.toNat_of_nonneg, go_sem, reduceCtorEq, ↓reduceIte, Nat.reduceEqDiff, Nat.reduceAdd, Nat.reduceSub, Nat.reduceMul, Nat.reduceLT, Nat.reduceLeDiff, Nat.reduceBEq, Nat.reduceBNe, Nat.reducePow, Nat.reduceDiv, Nat.reduceMod, Int.reduceAdd, Int.reduceSub, Int.reduceMul, Int.reduceLT, Int.reduceLE, Int.reduceEq, Int.reduceNe, Int.reduceNeg, Int.reduceToNat, Int.reducePow, Int.reduceDiv, Int.reduceMod]
  refine cp_of (t1) rfl ?_
  simp (disch := omega) only [sd_t, dec_t, dec_f, i64_in, u32_in, u64_in, i64_quo, u32_quo, u64_quo, rem_in, Int.toNat_of_nonneg, go_sem, reduceCtorEq, ↓reduceIte, Nat.reduceEqDiff, Nat.reduceAdd, Nat.reduceSub, Nat.reduceMul, Nat.reduceLT, Nat.reduceLeDiff, Nat.reduceBEq, Nat.reduceBNe, Nat.reducePow, Nat.reduceDiv, Nat.reduceMod, Int.reduceAdd, Int.reduceSub, Int.reduceMul, Int.reduceLT, Int.reduceLE, Int.reduceEq, Int.reduceNe, Int.reduceNeg, Int.reduceToNat, Int.reducePow, Int.reduceDiv, Int.reduceMod]
  refine cp_of (hmul) rfl ?_
  simp (disch := omega) only [sd_t, dec_t, dec_f, i64_in, u32_in, u64_in, i64_quo, u32_quo, u64_quo, rem_in, Int.toNat_of_nonneg, go_sem, reduceCtorEq, ↓reduceIte, Nat.reduceEqDiff, Nat.reduceAdd, Nat.reduceSub, Nat.reduceMul, Nat.reduceLT, Nat.reduceLeDiff, Nat.reduceBEq, Nat.reduceBNe, Nat.reducePow, Nat.reduceDiv, Nat.reduceMod, Int.reduceAdd, Int.reduceSub, Int.reduceMul, Int.reduceLT, Int.reduceLE, Int.reduceEq, Int.reduceNe, Int.reduceNeg, Int.reduceToNat, Int.reducePow, Int.reduceDiv, Int.reduceMod]
  refine cp_of (hb) rfl ?_
  simp (disch := omega) only [sd_t, dec_t, dec_f, i64_in, u32_in, u64_in, i64_quo, u32_quo, u64_quo, rem_in, Int.toNat_of_nonneg, go_sem, reduceCtorEq, ↓reduceIte, Nat.reduceEqDiff, Nat.reduceAdd, Nat.reduceSub, Nat.reduceMul, Nat.reduceLT, Nat.reduceLeDiff, Nat.reduceBEq, Nat.reduceBNe, Nat.reducePow, Nat.reduceDiv, Nat.reduceMod, Int.reduceAdd, Int.reduceSub, Int.reduceMul, Int.reduceLT, Int.reduceLE, Int.reduceEq, Int.reduceNe, Int.reduceNeg, Int.reduceToNat, Int.reducePow, Int.reduceDiv, Int.reduceMod]
  refine cp_of (t2) rfl ?_
  simp (disch := omega) only [sd_t, dec_t, dec_f, i64_in, u32_in, u64_in, i64_quo, u32_quo, u64_quo, rem_in, Int.toNat_of_nonneg, go_sem, reduceCtorEq, ↓reduceIte, Nat.reduceEqDiff, Nat.reduceAdd, Nat.reduceSub, Nat.reduceMul, Nat.reduceLT, Nat.reduceLeDiff, Nat.reduceBEq, Nat.reduceBNe, Nat.reducePow, Nat.reduceDiv, Nat.reduceMod, Int.reduceAdd, Int.reduceSub, Int.reduceMul, Int.reduceLT, Int.reduceLE, Int.reduceEq, Int.reduceNe, Int.reduceNeg, Int.reduceToNat, Int.reducePow, Int.reduceDiv, Int.reduceMod]
  refine cp_of (t3) rfl ?_
  simp (disch := omega) only [sd_t, dec_t, dec_f, i64_in, u32_in, u64_in, i64_quo, u32_quo, u64_quo, rem_in, Int.toNat_of_nonneg, go_sem, reduceCtorEq, ↓reduceIte, Nat.reduceEqDiff, Nat.reduceAdd, Nat.reduceSub, Nat.reduceMul, Nat.reduceLT, Nat.reduceLeDiff, Nat.reduceBEq, Nat.reduceBNe, Nat.reducePow, Nat.reduceDiv, Nat.reduceMod, Int.reduceAdd, Int.reduceSub, Int.reduceMul, Int.reduceLT, Int.reduceLE, Int.reduceEq, Int.reduceNe, Int.reduceNeg, Int.reduceToNat, Int.reducePow, Int.reduceDiv, Int.reduceMod]
  refine cp_of (Of_fn hL.P 12 (by omega)) rfl ?_
  simp (disch := omega) only [sd_t, dec_t, dec_f, i64_in, u32_in, u64_in, i64_quo, u32_quo, u64_quo, rem_in, Int.toNat_of_nonneg, go_sem, reduceCtorEq, ↓reduceIte, Nat.reduceEqDiff, Nat.reduceAdd, Nat.reduceSub, Nat.reduceMul, Nat.reduceLT, Nat.reduceLeDiff, Nat.reduceBEq, Nat.reduceBNe, Nat.reducePow, Nat.reduceDiv, Nat.reduceMod, Int.reduceAdd, Int.reduceSub, Int.reduceMul, Int.reduceLT, Int.reduceLE, Int.reduceEq, Int.reduceNe, Int.reduceNeg, Int.reduceToNat, Int.reducePow, Int.reduceDiv, Int.reduceMod]
  refine cp_of (Of_fn hL.P 18 (by omega)) rfl ?_
  simp (disch := omega) only [sd_t, dec_t, dec_f, i64_in, u32_in, u64_in, i64_quo, u32_quo, u64_quo, rem_in, Int.toNat_of_nonneg, go_sem, reduceCtorEq, ↓reduceIte, Nat.reduceEqDiff, Nat.reduceAdd, Nat.reduceSub, Nat.reduceMul, Nat.reduceLT, Nat.reduceLeDiff, Nat.reduceBEq, Nat.reduceBNe, Nat.reducePow, Nat.reduceDiv, Nat.reduceMod, Int.reduceAdd, Int.reduceSub, Int.reduceMul, Int.reduceLT, Int.reduceLE, Int.reduceEq, Int.reduceNe, Int.reduceNeg, Int.reduceToNat, Int.reducePow, Int.reduceDiv, Int.reduceMod]
  refine cp_of (hg) rfl ?_
  simp (disch := omega) only [sd_t, dec_t, dec_f, i64_in, u32_in, u64_in, i64_quo, u32_quo, u64_quo, rem_in, Int.toNat_of_nonneg, go_sem, reduceCtorEq, ↓reduceIte, Nat.reduceEqDiff, Nat.reduceAdd, Nat.reduceSub, Nat.reduceMul, Nat.reduceLT, Nat.reduceLeDiff, Nat.reduceBEq, Nat.reduceBNe, Nat.reducePow, Nat.reduceDiv, Nat.reduceMod, Int.reduceAdd, Int.reduceSub, Int.reduceMul, Int.reduceLT, Int.reduceLE, Int.reduceEq, Int.reduceNe, Int.reduceNeg, Int.reduceToNat, Int.reducePow, Int.reduceDiv, Int.reduceMod]
  refine cp_of (t4) rfl ?_
  simp (disch := omega) only [sd_t, dec_t, dec_f, i64_in, u32_in, u64_in, i64_quo, u32_quo, u64_quo, rem_in, Int.toNat_of_nonneg, go_sem, reduceCtorEq, ↓reduceIte, Nat.reduceEqDiff, Nat.reduceAdd, Nat.reduceSub, Nat.reduceMul, Nat.reduceLT, Nat.reduceLeDiff, Nat.reduceBEq, Nat.reduceBNe, Nat.reducePow, Nat.reduceDiv, Nat.reduceMod, Int.reduceAdd, Int.reduceSub, Int.reduceMul, Int.reduceLT, Int.reduceLE, Int.reduceEq, Int.reduceNe, Int.reduceNeg, Int.reduceToNat, Int.reducePow, Int.reduceDiv, Int.reduceMod]
end Go.Proofs.YtmjkhbjfacfmcaaGreatDoor.VX
end
section
namespace Go.Proofs
open Go.Shelf
open Go.RowKit in
open Go.RowKit in
def Tryz.lays160_ren : Go.Shelf.Ren := ⟨fun | 160 => 46 | 232 => 54 | 231 => 53 | 227 => 55 | 234 => 57 | 233 => 56 | 236 => 59 | 235 => 58 | 228 => 68 | 271 => 71 | 151 => 70 | 197 => 69 | 120 => 85 | 152 => 84 | 260 => 83 | 137 => 94 | 119 => 95 | 224 => 96 | 225 => 97 | 217 => 105 | 266 => 108 | n => n, fun | 9 => 9 | 4 => 4 | 3 => 3 | 5 => 5 | 117 => 89 | 116 => 88 | 0 => 0 | 124 => 92 | 21 => 21 | 105 => 101 | 46 => 67 | 119 => 129 | 139 => 132 | 138 => 131 | n => n, fun | 3 => 3 | 4 => 4 | n => n⟩
theorem Tryz.lays160 : Go.Proofs.Lays.n160 Tryz.prog Tryz.lays160_ren := {
  mixed := by kernel_rfl
  f119 := Tryz.func95.trans (congrArg some (by kernel_rfl))
  f120 := Tryz.func85.trans (congrArg some (by kernel_rfl))
  f137 := Tryz.func94.trans (congrArg some (by kernel_rfl))
  f151 := Tryz.func70.trans (congrArg some (by kernel_rfl))
  f152 := Tryz.func84.trans (congrArg some (by kernel_rfl))
  f160 := Tryz.func46.trans (congrArg some (by kernel_rfl))
  f197 := Tryz.func69.trans (congrArg some (by kernel_rfl))
  f217 := Tryz.func105.trans (congrArg some (by kernel_rfl))
  f224 := Tryz.func96.trans (congrArg some (by kernel_rfl))
  f225 := Tryz.func97.trans (congrArg some (by kernel_rfl))
  f227 := Tryz.func55.trans (congrArg some (by kernel_rfl))
  f228 := Tryz.func68.trans (congrArg some (by kernel_rfl))
  f231 := Tryz.func53.trans (congrArg some (by kernel_rfl))
  f232 := Tryz.func54.trans (congrArg some (by kernel_rfl))
  f233 := Tryz.func56.trans (congrArg some (by kernel_rfl))
  f234 := Tryz.func57.trans (congrArg some (by kernel_rfl))
  f235 := Tryz.func58.trans (congrArg some (by kernel_rfl))
  f236 := Tryz.func59.trans (congrArg some (by kernel_rfl))
  f260 := Tryz.func83.trans (congrArg some (by kernel_rfl))
  f266 := Tryz.func108.trans (congrArg some (by kernel_rfl))
  f271 := Tryz.func71.trans (congrArg some (by kernel_rfl))
  t0 := Tryz.underlying0
  a0 := Tryz.isAgg0
  z0 := Tryz.sizeOf0
  v0 := Tryz.zeroValue0
  t3 := Tryz.underlying3
  a3 := Tryz.isAgg3
  z3 := Tryz.sizeOf3
  v3 := Tryz.zeroValue3
  t4 := Tryz.underlying4
  a4 := Tryz.isAgg4
  z4 := Tryz.sizeOf4
  v4 := Tryz.zeroValue4
  t5 := Tryz.underlying5
  a5 := Tryz.isAgg5
  z5 := Tryz.sizeOf5
  v5 := Tryz.zeroValue5
  t9 := Tryz.underlying9
  a9 := Tryz.isAgg9
  z9 := Tryz.sizeOf9
  v9 := Tryz.zeroValue9
  t21 := Tryz.underlying21
  a21 := Tryz.isAgg21
  z21 := Tryz.sizeOf21
  v21 := Tryz.zeroValue21
  t46 := Tryz.underlying67
  a46 := Tryz.isAgg67
  z46 := Tryz.sizeOf67
  v46 := Tryz.zeroValue67
  t105 := Tryz.underlying101
  a105 := Tryz.isAgg101
  z105 := Tryz.sizeOf101
  v105 := Tryz.zeroValue101
  t116 := Tryz.underlying88
  a116 := Tryz.isAgg88
  z116 := Tryz.sizeOf88
  t117 := Tryz.underlying89
  a117 := Tryz.isAgg89
  z117 := Tryz.sizeOf89
  v117 := Tryz.zeroValue89
  t119 := Tryz.underlying129
  a119 := Tryz.isAgg129
  z119 := Tryz.sizeOf129
  t124 := Tryz.underlying92
  a124 := Tryz.isAgg92
  z124 := Tryz.sizeOf92
  v124 := Tryz.zeroValue92
  t138 := Tryz.underlying131
  a138 := Tryz.isAgg131
  z138 := Tryz.sizeOf131
  v138 := Tryz.zeroValue131
  t139 := Tryz.underlying132
  a139 := Tryz.isAgg132
  z139 := Tryz.sizeOf132
  v139 := Tryz.zeroValue132
  g3 := by kernel_rfl
  g4 := by kernel_rfl }
def Tryz.lays128_ren : Go.Shelf.Ren := ⟨fun | 128 => 41 | n => n, fun | 51 => 59 | 3 => 3 | 4 => 4 | 46 => 67 | 5 => 5 | 9 => 9 | n => n, fun | n => n⟩
theorem Tryz.lays128 : Go.Proofs.Lays.n128 Tryz.prog Tryz.lays128_ren := {
  mixed := by kernel_rfl
  f128 := Tryz.func41.trans (congrArg some (by kernel_rfl))
  t3 := Tryz.underlying3
  a3 := Tryz.isAgg3
  z3 := Tryz.sizeOf3
  v3 := Tryz.zeroValue3
  t4 := Tryz.underlying4
  a4 := Tryz.isAgg4
  z4 := Tryz.sizeOf4
  v4 := Tryz.zeroValue4
  t5 := Tryz.underlying5
  a5 := Tryz.isAgg5
  z5 := Tryz.sizeOf5
  v5 := Tryz.zeroValue5
  t9 := Tryz.underlying9
  a9 := Tryz.isAgg9
  z9 := Tryz.sizeOf9
  v9 := Tryz.zeroValue9
  t46 := Tryz.underlying67
  a46 := Tryz.isAgg67
  z46 := Tryz.sizeOf67
  v46 := Tryz.zeroValue67
  t51 := Tryz.underlying59
  a51 := Tryz.isAgg59
  z51 := Tryz.sizeOf59
  v51 := Tryz.zeroValue59 }
theorem Tryz.bits_Len32 (x : Int) (w : World) (h0 : 0 ≤ x) (h1 : x ≤ 4294967295) :
    Calls Tryz.prog 41 #[.int .u32 x] w fun e w' => e = .returned (.int .i64 (Lib.bitLen x.toNat)) ∧ w' = w := Any.bits_Len32 Tryz.lays128 x w h0 h1
def Tryz.lays133_ren : Go.Shelf.Ren := ⟨fun | 133 => 34 | 128 => 41 | n => n, fun | 51 => 59 | 3 => 3 | 4 => 4 | 46 => 67 | 5 => 5 | 9 => 9 | n => n, fun | n => n⟩
theorem Tryz.lays133 : Go.Proofs.Lays.n133 Tryz.prog Tryz.lays133_ren := {
  mixed := by kernel_rfl
  f128 := Tryz.func41.trans (congrArg some (by kernel_rfl))
  f133 := Tryz.func34.trans (congrArg some (by kernel_rfl))
  t3 := Tryz.underlying3
  a3 := Tryz.isAgg3
  z3 := Tryz.sizeOf3
  v3 := Tryz.zeroValue3
  t4 := Tryz.underlying4
  a4 := Tryz.isAgg4
  z4 := Tryz.sizeOf4
  v4 := Tryz.zeroValue4
  t5 := Tryz.underlying5
  a5 := Tryz.isAgg5
  z5 := Tryz.sizeOf5
  v5 := Tryz.zeroValue5
  t9 := Tryz.underlying9
  a9 := Tryz.isAgg9
  z9 := Tryz.sizeOf9
  v9 := Tryz.zeroValue9
  t46 := Tryz.underlying67
  a46 := Tryz.isAgg67
  z46 := Tryz.sizeOf67
  v46 := Tryz.zeroValue67
  t51 := Tryz.underlying59
  a51 := Tryz.isAgg59
  z51 := Tryz.sizeOf59
  v51 := Tryz.zeroValue59 }
theorem Tryz.bits_LeadingZeros32 (x : Int) (w : World) (h0 : 0 ≤ x) (h1 : x ≤ 4294967295) :
    Calls Tryz.prog 34 #[.int .u32 x] w fun e w' => e = .returned (.int .i64 (32 - (Lib.bitLen x.toNat : Int))) ∧ w' = w := Any.bits_LeadingZeros32 Tryz.lays133 x w h0 h1
def Tryz.laysM171_ren : Go.Shelf.Ren := ⟨fun | 171 => 48 | 243 => 62 | 246 => 77 | 283 => 89 | 284 => 90 | 285 => 91 | 286 => 92 | 129 => 101 | 317 => 100 | 318 => 102 | 319 => 103 | 320 => 104 | 337 => 106 | 338 => 107 | n => n, fun | 3 => 3 | 9 => 9 | 2 => 2 | 4 => 4 | 171 => 123 | 0 => 0 | 53 => 39 | 37 => 82 | 5 => 5 | 173 => 126 | 212 => 143 | 51 => 59 | 20 => 20 | 213 => 144 | 46 => 67 | 232 => 147 | 233 => 148 | n => n, fun | 17 => 5 | 18 => 7 | 19 => 8 | n => n⟩
theorem Tryz.laysM171 : Go.Proofs.LaysM.n171 Tryz.prog Tryz.laysM171_ren := {
  mixed := by kernel_rfl
  f129 := Tryz.func101.trans (congrArg some (by kernel_rfl))
  f171 := Tryz.func48.trans (congrArg some (by kernel_rfl))
  f243 := Tryz.func62.trans (congrArg some (by kernel_rfl))
  f246 := Tryz.func77.trans (congrArg some (by kernel_rfl))
  f283 := Tryz.func89.trans (congrArg some (by kernel_rfl))
  f284 := Tryz.func90.trans (congrArg some (by kernel_rfl))
  f285 := Tryz.func91.trans (congrArg some (by kernel_rfl))
  f286 := Tryz.func92.trans (congrArg some (by kernel_rfl))
  f317 := Tryz.func100.trans (congrArg some (by kernel_rfl))
  f318 := Tryz.func102.trans (congrArg some (by kernel_rfl))
  f319 := Tryz.func103.trans (congrArg some (by kernel_rfl))
  f320 := Tryz.func104.trans (congrArg some (by kernel_rfl))
  f337 := Tryz.func106.trans (congrArg some (by kernel_rfl))
  f338 := Tryz.func107.trans (congrArg some (by kernel_rfl))
  t0 := Tryz.underlying0
  a0 := Tryz.isAgg0
  z0 := Tryz.sizeOf0
  v0 := Tryz.zeroValue0
  t2 := Tryz.underlying2
  a2 := Tryz.isAgg2
  z2 := Tryz.sizeOf2
  v2 := Tryz.zeroValue2
  t3 := Tryz.underlying3
  a3 := Tryz.isAgg3
  z3 := Tryz.sizeOf3
  v3 := Tryz.zeroValue3
  t4 := Tryz.underlying4
  a4 := Tryz.isAgg4
  z4 := Tryz.sizeOf4
  v4 := Tryz.zeroValue4
  t5 := Tryz.underlying5
  a5 := Tryz.isAgg5
  z5 := Tryz.sizeOf5
  v5 := Tryz.zeroValue5
  t9 := Tryz.underlying9
  a9 := Tryz.isAgg9
  z9 := Tryz.sizeOf9
  v9 := Tryz.zeroValue9
  t20 := Tryz.underlying20
  a20 := Tryz.isAgg20
  z20 := Tryz.sizeOf20
  v20 := Tryz.zeroValue20
  t37 := Tryz.underlying82
  a37 := Tryz.isAgg82
  z37 := Tryz.sizeOf82
  v37 := Tryz.zeroValue82
  t46 := Tryz.underlying67
  a46 := Tryz.isAgg67
  z46 := Tryz.sizeOf67
  v46 := Tryz.zeroValue67
  t51 := Tryz.underlying59
  a51 := Tryz.isAgg59
  z51 := Tryz.sizeOf59
  v51 := Tryz.zeroValue59
  t53 := Tryz.underlying39
  a53 := Tryz.isAgg39
  z53 := Tryz.sizeOf39
  v53 := Tryz.zeroValue39
  t171 := Tryz.underlying123
  a171 := Tryz.isAgg123
  z171 := Tryz.sizeOf123
  v171 := Tryz.zeroValue123
  t173 := Tryz.underlying126
  a173 := Tryz.isAgg126
  z173 := Tryz.sizeOf126
  v173 := Tryz.zeroValue126
  t212 := Tryz.underlying143
  a212 := Tryz.isAgg143
  z212 := Tryz.sizeOf143
  v212 := Tryz.zeroValue143
  t213 := Tryz.underlying144
  a213 := Tryz.isAgg144
  z213 := Tryz.sizeOf144
  t232 := Tryz.underlying147
  a232 := Tryz.isAgg147
  z232 := Tryz.sizeOf147
  v232 := Tryz.zeroValue147
  t233 := Tryz.underlying148
  a233 := Tryz.isAgg148
  z233 := Tryz.sizeOf148
  v233 := Tryz.zeroValue148
  g17 := by kernel_rfl
  g18 := by kernel_rfl
  g19 := by kernel_rfl
  i0 := by kernel_rfl
  i2 := by kernel_rfl
  i3 := by kernel_rfl
  i4 := by kernel_rfl
  i5 := by kernel_rfl
  i9 := by kernel_rfl
  i20 := by kernel_rfl
  i37 := by kernel_rfl
  i46 := by kernel_rfl
  i51 := by kernel_rfl
  i53 := by kernel_rfl
  i171 := by kernel_rfl
  i173 := by kernel_rfl
  i212 := by kernel_rfl
  i232 := by kernel_rfl
  i233 := by kernel_rfl
  m17 := by kernel_rfl
  m18 := by kernel_rfl
  m19 := by kernel_rfl }
open Go.RowKit Go.Sort Go.Lib in
theorem Tryz.strconv_Itoa (n : Int) (h0 : -9223372036854775808 ≤ n) (h1 : n ≤ 9223372036854775807) (w : World) (htab : Lib.TabIs Tryz.prog w "internal/strconv.uint64pow10" .u64 Lib.pow10Tab) :
    Calls Tryz.prog 48 #[.int .i64 n] w fun e w' => e = .returned (.string ⟨(Lib.itoa n).toArray⟩) ∧ ∃ k os, w' = grow (w.drewN k) os := Any.strconv_Itoa Tryz.laysM171 n h0 h1 w htab
def Tryz.laysC172_ren : Go.Shelf.Ren := ⟨fun | 172 => 47 | 244 => 60 | 245 => 61 | 247 => 72 | 279 => 73 | 280 => 74 | 281 => 75 | 282 => 76 | 287 => 86 | 316 => 87 | 171 => 48 | 205 => 88 | 321 => 98 | 322 => 99 | 243 => 62 | 246 => 77 | 283 => 89 | 284 => 90 | 285 => 91 | 286 => 92 | 129 => 101 | 317 => 100 | 318 => 102 | 319 => 103 | 320 => 104 | 337 => 106 | 338 => 107 | n => n, fun | 9 => 9 | 3 => 3 | 75 => 75 | 76 => 76 | 4 => 4 | 5 => 5 | 167 => 104 | 37 => 82 | 0 => 0 | 85 => 105 | 2 => 2 | 168 => 107 | 53 => 39 | 175 => 117 | 46 => 67 | 210 => 121 | 127 => 99 | 145 => 141 | 143 => 139 | 21 => 21 | 171 => 123 | 173 => 126 | 212 => 143 | 51 => 59 | 20 => 20 | 213 => 144 | 232 => 147 | 233 => 148 | 80 => 85 | n => n, fun | 15 => 1 | 16 => 2 | 17 => 5 | 18 => 7 | 19 => 8 | n => n⟩
theorem Tryz.laysC172 : Go.Proofs.LaysC.n172 Tryz.prog Tryz.laysC172_ren := {
  mixed := by kernel_rfl
  f129 := Tryz.func101.trans (congrArg some (by kernel_rfl))
  f171 := Tryz.func48.trans (congrArg some (by kernel_rfl))
  f172 := Tryz.func47.trans (congrArg some (by kernel_rfl))
  f205 := Tryz.func88.trans (congrArg some (by kernel_rfl))
  f243 := Tryz.func62.trans (congrArg some (by kernel_rfl))
  f244 := Tryz.func60.trans (congrArg some (by kernel_rfl))
  f245 := Tryz.func61.trans (congrArg some (by kernel_rfl))
  f246 := Tryz.func77.trans (congrArg some (by kernel_rfl))
  f247 := Tryz.func72.trans (congrArg some (by kernel_rfl))
  f279 := Tryz.func73.trans (congrArg some (by kernel_rfl))
  f280 := Tryz.func74.trans (congrArg some (by kernel_rfl))
  f281 := Tryz.func75.trans (congrArg some (by kernel_rfl))
  f282 := Tryz.func76.trans (congrArg some (by kernel_rfl))
  f283 := Tryz.func89.trans (congrArg some (by kernel_rfl))
  f284 := Tryz.func90.trans (congrArg some (by kernel_rfl))
  f285 := Tryz.func91.trans (congrArg some (by kernel_rfl))
  f286 := Tryz.func92.trans (congrArg some (by kernel_rfl))
  f287 := Tryz.func86.trans (congrArg some (by kernel_rfl))
  f316 := Tryz.func87.trans (congrArg some (by kernel_rfl))
  f317 := Tryz.func100.trans (congrArg some (by kernel_rfl))
  f318 := Tryz.func102.trans (congrArg some (by kernel_rfl))
  f319 := Tryz.func103.trans (congrArg some (by kernel_rfl))
  f320 := Tryz.func104.trans (congrArg some (by kernel_rfl))
  f321 := Tryz.func98.trans (congrArg some (by kernel_rfl))
  f322 := Tryz.func99.trans (congrArg some (by kernel_rfl))
  f337 := Tryz.func106.trans (congrArg some (by kernel_rfl))
  f338 := Tryz.func107.trans (congrArg some (by kernel_rfl))
  t0 := Tryz.underlying0
  a0 := Tryz.isAgg0
  z0 := Tryz.sizeOf0
  v0 := Tryz.zeroValue0
  t2 := Tryz.underlying2
  a2 := Tryz.isAgg2
  z2 := Tryz.sizeOf2
  v2 := Tryz.zeroValue2
  t3 := Tryz.underlying3
  a3 := Tryz.isAgg3
  z3 := Tryz.sizeOf3
  v3 := Tryz.zeroValue3
  t4 := Tryz.underlying4
  a4 := Tryz.isAgg4
  z4 := Tryz.sizeOf4
  v4 := Tryz.zeroValue4
  t5 := Tryz.underlying5
  a5 := Tryz.isAgg5
  z5 := Tryz.sizeOf5
  v5 := Tryz.zeroValue5
  t9 := Tryz.underlying9
  a9 := Tryz.isAgg9
  z9 := Tryz.sizeOf9
  v9 := Tryz.zeroValue9
  t20 := Tryz.underlying20
  a20 := Tryz.isAgg20
  z20 := Tryz.sizeOf20
  v20 := Tryz.zeroValue20
  t21 := Tryz.underlying21
  a21 := Tryz.isAgg21
  z21 := Tryz.sizeOf21
  v21 := Tryz.zeroValue21
  t37 := Tryz.underlying82
  a37 := Tryz.isAgg82
  z37 := Tryz.sizeOf82
  v37 := Tryz.zeroValue82
  t46 := Tryz.underlying67
  a46 := Tryz.isAgg67
  z46 := Tryz.sizeOf67
  v46 := Tryz.zeroValue67
  t51 := Tryz.underlying59
  a51 := Tryz.isAgg59
  z51 := Tryz.sizeOf59
  v51 := Tryz.zeroValue59
  t53 := Tryz.underlying39
  a53 := Tryz.isAgg39
  z53 := Tryz.sizeOf39
  v53 := Tryz.zeroValue39
  t75 := Tryz.underlying75
  a75 := Tryz.isAgg75
  z75 := Tryz.sizeOf75
  v75 := Tryz.zeroValue75
  t76 := Tryz.underlying76
  a76 := Tryz.isAgg76
  z76 := Tryz.sizeOf76
  v76 := Tryz.zeroValue76
  t85 := Tryz.underlying105
  a85 := Tryz.isAgg105
  z85 := Tryz.sizeOf105
  v85 := Tryz.zeroValue105
  t127 := Tryz.underlying99
  a127 := Tryz.isAgg99
  z127 := Tryz.sizeOf99
  v127 := Tryz.zeroValue99
  t143 := Tryz.underlying139
  a143 := Tryz.isAgg139
  z143 := Tryz.sizeOf139
  v143 := Tryz.zeroValue139
  t145 := Tryz.underlying141
  a145 := Tryz.isAgg141
  z145 := Tryz.sizeOf141
  v145 := Tryz.zeroValue141
  t167 := Tryz.underlying104
  a167 := Tryz.isAgg104
  z167 := Tryz.sizeOf104
  v167 := Tryz.zeroValue104
  t168 := Tryz.underlying107
  a168 := Tryz.isAgg107
  z168 := Tryz.sizeOf107
  v168 := Tryz.zeroValue107
  t171 := Tryz.underlying123
  a171 := Tryz.isAgg123
  z171 := Tryz.sizeOf123
  v171 := Tryz.zeroValue123
  t173 := Tryz.underlying126
  a173 := Tryz.isAgg126
  z173 := Tryz.sizeOf126
  v173 := Tryz.zeroValue126
  t175 := Tryz.underlying117
  a175 := Tryz.isAgg117
  z175 := Tryz.sizeOf117
  v175 := Tryz.zeroValue117
  t210 := Tryz.underlying121
  a210 := Tryz.isAgg121
  z210 := Tryz.sizeOf121
  v210 := Tryz.zeroValue121
  t212 := Tryz.underlying143
  a212 := Tryz.isAgg143
  z212 := Tryz.sizeOf143
  v212 := Tryz.zeroValue143
  t213 := Tryz.underlying144
  a213 := Tryz.isAgg144
  z213 := Tryz.sizeOf144
  t232 := Tryz.underlying147
  a232 := Tryz.isAgg147
  z232 := Tryz.sizeOf147
  v232 := Tryz.zeroValue147
  t233 := Tryz.underlying148
  a233 := Tryz.isAgg148
  z233 := Tryz.sizeOf148
  v233 := Tryz.zeroValue148
  g15 := by kernel_rfl
  g16 := by kernel_rfl
  g17 := by kernel_rfl
  g18 := by kernel_rfl
  g19 := by kernel_rfl
  t80 := Tryz.underlying85
  a80 := Tryz.isAgg85
  z80 := Tryz.sizeOf85
  v80 := Tryz.zeroValue85
  i0 := by kernel_rfl
  i2 := by kernel_rfl
  i3 := by kernel_rfl
  i4 := by kernel_rfl
  i5 := by kernel_rfl
  i9 := by kernel_rfl
  i20 := by kernel_rfl
  i21 := by kernel_rfl
  i37 := by kernel_rfl
  i46 := by kernel_rfl
  i51 := by kernel_rfl
  i53 := by kernel_rfl
  i75 := by kernel_rfl
  i76 := by kernel_rfl
  i80 := by kernel_rfl
  i85 := by kernel_rfl
  i127 := by kernel_rfl
  i143 := by kernel_rfl
  i145 := by kernel_rfl
  i167 := by kernel_rfl
  i168 := by kernel_rfl
  i171 := by kernel_rfl
  i173 := by kernel_rfl
  i175 := by kernel_rfl
  i210 := by kernel_rfl
  i212 := by kernel_rfl
  i232 := by kernel_rfl
  i233 := by kernel_rfl
  m15 := by kernel_rfl
  m16 := by kernel_rfl
  m17 := by kernel_rfl
  m18 := by kernel_rfl
  m19 := by kernel_rfl
  c0 := by kernel_rfl
  c2 := by kernel_rfl
  c3 := by kernel_rfl
  c4 := by kernel_rfl
  c5 := by kernel_rfl
  c9 := by kernel_rfl
  c20 := by kernel_rfl
  c21 := by kernel_rfl
  c37 := by kernel_rfl
  c46 := by kernel_rfl
  c51 := by kernel_rfl
  c53 := by kernel_rfl
  c75 := by kernel_rfl
  c76 := by kernel_rfl
  c80 := by kernel_rfl
  c85 := by kernel_rfl
  c127 := by kernel_rfl
  c143 := by kernel_rfl
  c145 := by kernel_rfl
  c167 := by kernel_rfl
  c168 := by kernel_rfl
  c171 := by kernel_rfl
  c173 := by kernel_rfl
  c175 := by kernel_rfl
  c210 := by kernel_rfl
  c212 := by kernel_rfl
  c213 := by kernel_rfl
  c232 := by kernel_rfl
  c233 := by kernel_rfl }
open Go.RowKit in
theorem Tryz.strconv_Atoi_ok (s : ByteArray) (hmax : s.size ≤ 9223372036854775806) (v : Int) (h : Lib.atoiAll s.data.toList = .ok v) (w : World) :
    Calls Tryz.prog 47 #[.string s] w fun e w' => e = .returned (.tuple #[.int .i64 v, .nilIface]) ∧ (w' = w ∨ ∃ t, w' = Lib.bytesWorld w 5 t) := Any.strconv_Atoi_ok Tryz.laysC172 s hmax v h w
def Tryz.lays105_ren : Go.Shelf.Ren := ⟨fun | 105 => 49 | 212 => 63 | 99 => 64 | 165 => 65 | 166 => 50 | 170 => 66 | 169 => 51 | 263 => 78 | 264 => 79 | 206 => 80 | 240 => 67 | 241 => 81 | 276 => 82 | 277 => 93 | n => n, fun | 9 => 9 | 3 => 3 | 4 => 4 | 20 => 20 | 0 => 0 | 46 => 67 | 109 => 94 | 5 => 5 | 72 => 84 | 76 => 76 | 51 => 59 | 146 => 70 | 53 => 39 | 148 => 112 | 70 => 81 | 37 => 82 | 75 => 75 | 127 => 99 | 164 => 114 | 80 => 85 | n => n, fun | n => n⟩
theorem Tryz.lays105 : Go.Proofs.Lays.n105 Tryz.prog Tryz.lays105_ren := {
  mixed := by kernel_rfl
  f99 := Tryz.func64.trans (congrArg some (by kernel_rfl))
  f105 := Tryz.func49.trans (congrArg some (by kernel_rfl))
  f165 := Tryz.func65.trans (congrArg some (by kernel_rfl))
  f166 := Tryz.func50.trans (congrArg some (by kernel_rfl))
  f169 := Tryz.func51.trans (congrArg some (by kernel_rfl))
  f170 := Tryz.func66.trans (congrArg some (by kernel_rfl))
  f206 := Tryz.func80.trans (congrArg some (by kernel_rfl))
  f212 := Tryz.func63.trans (congrArg some (by kernel_rfl))
  f240 := Tryz.func67.trans (congrArg some (by kernel_rfl))
  f241 := Tryz.func81.trans (congrArg some (by kernel_rfl))
  f263 := Tryz.func78.trans (congrArg some (by kernel_rfl))
  f264 := Tryz.func79.trans (congrArg some (by kernel_rfl))
  f276 := Tryz.func82.trans (congrArg some (by kernel_rfl))
  f277 := Tryz.func93.trans (congrArg some (by kernel_rfl))
  t0 := Tryz.underlying0
  a0 := Tryz.isAgg0
  z0 := Tryz.sizeOf0
  v0 := Tryz.zeroValue0
  t3 := Tryz.underlying3
  a3 := Tryz.isAgg3
  z3 := Tryz.sizeOf3
  v3 := Tryz.zeroValue3
  t4 := Tryz.underlying4
  a4 := Tryz.isAgg4
  z4 := Tryz.sizeOf4
  v4 := Tryz.zeroValue4
  t5 := Tryz.underlying5
  a5 := Tryz.isAgg5
  z5 := Tryz.sizeOf5
  v5 := Tryz.zeroValue5
  t9 := Tryz.underlying9
  a9 := Tryz.isAgg9
  z9 := Tryz.sizeOf9
  v9 := Tryz.zeroValue9
  t20 := Tryz.underlying20
  a20 := Tryz.isAgg20
  z20 := Tryz.sizeOf20
  v20 := Tryz.zeroValue20
  t37 := Tryz.underlying82
  a37 := Tryz.isAgg82
  z37 := Tryz.sizeOf82
  v37 := Tryz.zeroValue82
  t46 := Tryz.underlying67
  a46 := Tryz.isAgg67
  z46 := Tryz.sizeOf67
  v46 := Tryz.zeroValue67
  t51 := Tryz.underlying59
  a51 := Tryz.isAgg59
  z51 := Tryz.sizeOf59
  v51 := Tryz.zeroValue59
  t53 := Tryz.underlying39
  a53 := Tryz.isAgg39
  z53 := Tryz.sizeOf39
  v53 := Tryz.zeroValue39
  t70 := Tryz.underlying81
  a70 := Tryz.isAgg81
  z70 := Tryz.sizeOf81
  v70 := Tryz.zeroValue81
  t72 := Tryz.underlying84
  a72 := Tryz.isAgg84
  z72 := Tryz.sizeOf84
  v72 := Tryz.zeroValue84
  t75 := Tryz.underlying75
  a75 := Tryz.isAgg75
  z75 := Tryz.sizeOf75
  v75 := Tryz.zeroValue75
  t76 := Tryz.underlying76
  a76 := Tryz.isAgg76
  z76 := Tryz.sizeOf76
  v76 := Tryz.zeroValue76
  t109 := Tryz.underlying94
  a109 := Tryz.isAgg94
  z109 := Tryz.sizeOf94
  v109 := Tryz.zeroValue94
  t127 := Tryz.underlying99
  a127 := Tryz.isAgg99
  z127 := Tryz.sizeOf99
  v127 := Tryz.zeroValue99
  t146 := Tryz.underlying70
  a146 := Tryz.isAgg70
  z146 := Tryz.sizeOf70
  v146 := Tryz.zeroValue70
  t148 := Tryz.underlying112
  a148 := Tryz.isAgg112
  z148 := Tryz.sizeOf112
  v148 := Tryz.zeroValue112
  t164 := Tryz.underlying114
  a164 := Tryz.isAgg114
  z164 := Tryz.sizeOf114
  v164 := Tryz.zeroValue114 }
theorem Tryz.Builder_Extra_105 : Builder.Extra Tryz.prog Tryz.lays105_ren := {
  sizeBuilder := by kernel_rfl
  liesBuilder := by kernel_rfl
  t5 := Tryz.underlying5
  a5 := Tryz.isAgg5
  z5 := Tryz.sizeOf5
  v5 := Tryz.zeroValue5
  infoByte := by kernel_rfl
  cellsByte := by kernel_rfl
  sizeByte := by kernel_rfl
  neB5 := by decide }
open Go.RowKit Go.Lib in
theorem Tryz.strings_Repeat (s : ByteArray) (c : Nat) (w : World) (hc : c ≤ 9223372036854775807) (hlen : s.size * c ≤ 140737488355328) :
    Calls Tryz.prog 49 #[.string s, .int .i64 c] w fun e w' => e = .returned (.string ⟨(Lib.repeatL s.data.toList c).toArray⟩) ∧ Below w.heap.size w w' := Any.strings_Repeat Tryz.lays105 Tryz.Builder_Extra_105 s c w hc hlen
open Go.RowKit in
open Go.RowKit in
theorem Tryz.strings_Trim_digits (s : ByteArray) (w : World) (hs : s.size ≤ 9223372036854775807) :
    Calls Tryz.prog 46 #[.string s, .string ⟨#[48, 49, 50, 51, 52, 53, 54, 55, 56, 57]⟩] w fun e w' => e = .returned (.string ⟨(Lib.trimS s.data.toList [48, 49, 50, 51, 52, 53, 54, 55, 56, 57]).toArray⟩) ∧ Below w.heap.size w w' :=
  Any.strings_Trim_laid Tryz.lays160 (by kernel_rfl) s ⟨#[48, 49, 50, 51, 52, 53, 54, 55, 56, 57]⟩ w hs (by decide) (ascii_of_all (by decide))
end Go.Proofs
end
section
namespace Go.Proofs.YtmjkhbjfacfmcaaGreatDoor
open Go.RowKit Go.Proofs.YtmjkhbjfacfmcaaGreatDoorW.PrintWords
set_option linter.unusedVariables false
set_option linter.unusedSimpArgs false
@[simp] theorem ne_nil_isEmpty (l : List UInt8) : (l != []) = !l.isEmpty := by cases l <;> rfl
end Go.Proofs.YtmjkhbjfacfmcaaGreatDoor
end
section
namespace Go.Proofs.YtmjkhbjfacfmcaaGreatDoor
open Go.RowKit Go.Proofs.YtmjkhbjfacfmcaaGreatDoorW.PrintWords
set_option linter.unusedVariables false
structure GLw (w : World) : Prop where
  tab : Lib.TabIs Tryz.prog w "internal/strconv.uint64pow10" .u64 Lib.pow10Tab
theorem GLw.mono {w0 w : World} (h : GLw w0) (hb : Below w0.heap.size w0 w) : GLw w := ⟨Lib.tabBelow_of_tabIs h.tab _ hb⟩
theorem GLw.drewN {w : World} {n : Nat} (h : GLw w) : GLw (w.drewN n) := h.mono (pw_below_drewN (Below.refl _ _) n)
theorem GLw.drew {w : World} (h : GLw w) : GLw w.drew := h.mono (below_drew (Below.refl _ _))
def revcat (l : List ByteArray) : List UInt8 := (l.reverse.map (fun s => s.data.toList)).flatten
def joinrev.f (l : List ByteArray) : Option ByteArray := if (revcat l).length ≤ 140737488355328 then some ⟨(revcat l).toArray⟩ else none
def strconv_Itoa.f (n : Int) : Option ByteArray := if -9223372036854775808 ≤ n ∧ n ≤ 9223372036854775807 then some ⟨(Lib.itoa n).toArray⟩ else none
theorem strconv_Itoa.calls (a0 : Int) (r : ByteArray) (w : World) (hGl : GLw w) (h : strconv_Itoa.f a0 = some r) :
    Calls Tryz.prog 48 #[.int .i64 a0] w fun e w' => e = .returned (.string r) ∧ Below w.heap.size w w' := by
  unfold strconv_Itoa.f at h
  split at h
  · rename_i hb
    cases h
    refine (Tryz.strconv_Itoa a0 hb.1 hb.2 w hGl.tab).mono ?_
    rintro e w' ⟨rfl, k, os, rfl⟩
    exact ⟨rfl, Lib.below_grow _ _ (Nat.le_refl _) k os⟩
  · cases h
def strconv_Atoi.f (s : ByteArray) : Option (Int × Option Int) := if s.size ≤ 9223372036854775806 then (match Lib.atoiAll s.data.toList with | .ok v => some (v, none) | _ => none) else none
theorem strconv_Atoi.calls (a0 : ByteArray) (r1 : Int) (r2 : Option Int) (w : World) (h : strconv_Atoi.f a0 = some (r1, r2)) :
    Calls Tryz.prog 47 #[.string a0] w fun e w' => e = .returned (.tuple #[.int .i64 r1, .nilIface]) ∧ Below w.heap.size w w' := by
  unfold strconv_Atoi.f at h
  split at h
  · rename_i hb
    split at h
    · rename_i v hv
      cases h
      refine (Tryz.strconv_Atoi_ok a0 hb _ hv w).mono ?_
      rintro e w' ⟨rfl, hw⟩
      refine ⟨rfl, ?_⟩
      rcases hw with rfl | ⟨t, rfl⟩
      · exact Below.refl _ _
      · exact Lib.bytesWorld_below _ _ _
    · cases h
  · cases h
def strings_Trim.f (a0 a1 : ByteArray) : Option ByteArray := if a1 = ⟨#[48, 49, 50, 51, 52, 53, 54, 55, 56, 57]⟩ ∧ a0.size ≤ 9223372036854775807 then some ⟨(Lib.trimS a0.data.toList [48, 49, 50, 51, 52, 53, 54, 55, 56, 57]).toArray⟩ else none
theorem strings_Trim.calls (a0 : ByteArray) (a1 : ByteArray) (r : ByteArray) (w : World) (h : strings_Trim.f a0 a1 = some r) :
    Calls Tryz.prog 46 #[.string a0, .string a1] w fun e w' => e = .returned (.string r) ∧ Below w.heap.size w w' := by
  unfold strings_Trim.f at h
  split at h
  · rename_i hb
    cases h
    rw [hb.1]
    exact Tryz.strings_Trim_digits a0 w hb.2
  · cases h
def strings_Repeat.f (a0 : ByteArray) (a1 : Int) : Option ByteArray := if 0 ≤ a1 ∧ a1 ≤ 9223372036854775807 ∧ a0.size * a1.toNat ≤ 140737488355328 then some ⟨(Lib.repeatL a0.data.toList a1.toNat).toArray⟩ else none
theorem strings_Repeat.calls (a0 : ByteArray) (a1 : Int) (r : ByteArray) (w : World) (h : strings_Repeat.f a0 a1 = some r) :
    Calls Tryz.prog 49 #[.string a0, .int .i64 a1] w fun e w' => e = .returned (.string r) ∧ Below w.heap.size w w' := by
  unfold strings_Repeat.f at h
  split at h
  · rename_i hb
    cases h
    obtain ⟨n, rfl⟩ : ∃ n : Nat, a1 = n := ⟨a1.toNat, by omega⟩
    exact Tryz.strings_Repeat a0 n w (by omega) (by simpa using hb.2.2)
  · cases h
def bits_Div32.f (hi lo y : Int) : Option (Int × Int) := if 0 ≤ hi ∧ hi < y ∧ y < 4294967296 ∧ 0 ≤ lo ∧ lo < 4294967296 then some ((hi * 4294967296 + lo) / y, (hi * 4294967296 + lo) % y) else none
theorem u64_or_join (hi lo : Int) (h0 : 0 ≤ hi) (h1 : hi < 4294967296) (h2 : 0 ≤ lo) (h3 : lo < 4294967296) : bits .or .u64 (hi * 4294967296) lo = hi * 4294967296 + lo := by
  rw [u64_or _ _ (by omega) (by omega) h2 (by omega)]
  obtain ⟨a, rfl⟩ : ∃ a : Nat, hi = a := ⟨hi.toNat, by omega⟩
  obtain ⟨b, rfl⟩ : ∃ b : Nat, lo = b := ⟨lo.toNat, by omega⟩
  have e : ((a : Int) * 4294967296).toNat = 2 ^ 32 * a := by omega
  rw [e, Int.toNat_natCast, ← Nat.two_pow_add_eq_or_of_lt (by omega)]
  omega
set_option maxHeartbeats 1000000 in
theorem bits_Div32.calls (a0 : Int) (a1 : Int) (a2 : Int) (r1 : Int) (r2 : Int) (w : World) (h : bits_Div32.f a0 a1 a2 = some (r1, r2)) :
    Calls Tryz.prog 52 #[.int .u32 a0, .int .u32 a1, .int .u32 a2] w fun e w' => e = .returned (.tuple #[.int .u32 r1, .int .u32 r2]) ∧ Drawn0 w w' := by
  unfold bits_Div32.f at h
  split at h
  · rename_i hb
    obtain ⟨h0, h1, h2, h3, h4⟩ := hb
    cases h
    have n0 : (a2 == 0) = false := by simp; omega
    have n1 : decide (a2 ≤ a0) = false := by simp; omega
    have ho := u64_or_join a0 a1 h0 (by omega) h3 h4
    have h5 : a0 < 4294967296 := by omega
    obtain ⟨z, hz⟩ : ∃ z, a0 * 4294967296 + a1 = z := ⟨_, rfl⟩
    have q0 : 0 ≤ z / a2 := Int.ediv_nonneg (by omega) (by omega)
    have q1 : z / a2 < 4294967296 := Int.ediv_lt_of_lt_mul (by omega) (by omega)
    have m0 : 0 ≤ z % a2 := Int.emod_nonneg _ (by omega)
    have m1 : z % a2 < 4294967296 := Int.lt_trans (Int.emod_lt_of_pos z (by omega)) h2
    have z0 : 0 ≤ z := by omega
    have z1 : z ≤ 18446744069414584319 := by omega
    rw [hz] at ho ⊢
    clear hz
    go_enter Tryz.func52, Tryz.ntmps52
    go_wp2
    go_quiet (fail)
    go_wp2
    go_ret2
    exact ⟨rfl, ⟨_, rfl⟩⟩
  · cases h
theorem top_bit (n : Nat) (h : n < 4294967296) : n / 2147483648 = (n.testBit 31).toNat := by
  rw [Nat.testBit_eq_decide_div_mod_eq]
  have : n / 2 ^ 31 % 2 = n / 2147483648 := by omega
  rw [this]
  have h2 : n / 2147483648 = 0 ∨ n / 2147483648 = 1 := by omega
  rcases h2 with h2 | h2 <;> simp [h2]
theorem top_of (n : Nat) (h : n < 4294967296) : n.testBit 31 = decide (2147483648 ≤ n) := by
  have := top_bit n h
  by_cases c : 2147483648 ≤ n
  · have e : n / 2147483648 = 1 := by omega
    rw [e] at this
    simp only [c, decide_true]
    cases hb : n.testBit 31
    · rw [hb] at this; simp at this
    · rfl
  · have e : n / 2147483648 = 0 := by omega
    rw [e] at this
    simp only [c, decide_false]
    cases hb : n.testBit 31
    · rfl
    · rw [hb] at this; simp at this
theorem sub32_borrow (x y b : Int) (h0 : 0 ≤ x) (h1 : x < 4294967296) (h2 : 0 ≤ y) (h3 : y < 4294967296) (h4 : 0 ≤ b) (h5 : b ≤ 1) :
    bits .or .u32 (bits .and .u32 (bits .xor .u32 IntKind.u32.max x) y) (bits .and .u32 (bits .xor .u32 IntKind.u32.max (bits .xor .u32 x y)) ((x - y - b) % 4294967296)) / 2147483648 = if x < y + b then 1 else 0 := by
  have em : IntKind.u32.max = ((4294967295 : Nat) : Int) := by decide
  obtain ⟨X, rfl⟩ : ∃ a : Nat, x = a := ⟨x.toNat, by omega⟩
  obtain ⟨Y, rfl⟩ : ∃ a : Nat, y = a := ⟨y.toNat, by omega⟩
  obtain ⟨Bb, rfl⟩ : ∃ a : Nat, b = a := ⟨b.toNat, by omega⟩
  obtain ⟨D, hD⟩ : ∃ a : Nat, ((X : Int) - Y - Bb) % 4294967296 = a := ⟨(((X : Int) - Y - Bb) % 4294967296).toNat, by omega⟩
  rw [hD, em]
  have hX : X < 2 ^ 32 := by omega
  have hY : Y < 2 ^ 32 := by omega
  have hDl : D < 2 ^ 32 := by omega
  have hM : 4294967295 < 2 ^ 32 := by decide
  have xl : X ^^^ Y < 2 ^ 32 := Nat.xor_lt_two_pow hX hY
  have nx : 4294967295 ^^^ X < 2 ^ 32 := Nat.xor_lt_two_pow hM hX
  have nxy : 4294967295 ^^^ (X ^^^ Y) < 2 ^ 32 := Nat.xor_lt_two_pow hM xl
  have a1 : (4294967295 ^^^ X) &&& Y < 2 ^ 32 := Nat.and_lt_two_pow _ hY
  have a2 : (4294967295 ^^^ (X ^^^ Y)) &&& D < 2 ^ 32 := Nat.and_lt_two_pow _ hDl
  rw [u32_xor_nat _ _ (by decide) (by omega), u32_xor_nat X Y (by omega) (by omega), u32_xor_nat _ _ (by decide) (by omega), u32_and_nat _ _ (by omega) (by omega), u32_and_nat _ _ (by omega) (by omega), u32_or_nat _ _ (by omega) (by omega)]
  have ol : ((4294967295 ^^^ X) &&& Y) ||| ((4294967295 ^^^ (X ^^^ Y)) &&& D) < 2 ^ 32 := Nat.or_lt_two_pow a1 a2
  have e : ((((4294967295 ^^^ X) &&& Y) ||| ((4294967295 ^^^ (X ^^^ Y)) &&& D) : Nat) : Int) / 2147483648 = (((((4294967295 ^^^ X) &&& Y) ||| ((4294967295 ^^^ (X ^^^ Y)) &&& D)) / 2147483648 : Nat) : Int) := by omega
  rw [e, top_bit _ (by omega)]
  simp only [Nat.testBit_or, Nat.testBit_and, Nat.testBit_xor]
  rw [top_of X (by omega), top_of Y (by omega), top_of D (by omega), show Nat.testBit 4294967295 31 = true by decide]
  by_cases cx : 2147483648 ≤ X <;> by_cases cy : 2147483648 ≤ Y <;> by_cases cd : 2147483648 ≤ D <;> simp [cx, cy, cd] <;> omega
def bits_Sub32.f (x y b : Int) : Option (Int × Int) := if 0 ≤ x ∧ x < 4294967296 ∧ 0 ≤ y ∧ y < 4294967296 ∧ 0 ≤ b ∧ b ≤ 1 then some ((x - y - b) % 4294967296, if x < y + b then 1 else 0) else none
set_option maxHeartbeats 1000000 in
theorem bits_Sub32.calls (a0 : Int) (a1 : Int) (a2 : Int) (r1 : Int) (r2 : Int) (w : World) (h : bits_Sub32.f a0 a1 a2 = some (r1, r2)) :
    Calls Tryz.prog 42 #[.int .u32 a0, .int .u32 a1, .int .u32 a2] w fun e w' => e = .returned (.tuple #[.int .u32 r1, .int .u32 r2]) ∧ Drawn0 w w' := by
  unfold bits_Sub32.f at h
  split at h
  · rename_i hb
    obtain ⟨h0, h1, h2, h3, h4, h5⟩ := hb
    cases h
    have hs := sub32_borrow a0 a1 a2 h0 h1 h2 h3 h4 h5
    obtain ⟨c, hc⟩ : ∃ c, (if a0 < a1 + a2 then (1 : Int) else 0) = c := ⟨_, rfl⟩
    rw [hc] at hs ⊢
    have HS := Aside0.mk hs
    clear hs hc
    go_enter Tryz.func42, Tryz.ntmps42
    go_wp2
    go_ret2
    exact ⟨by rw [← HS.out]; rfl, ⟨0, by simp [World.drewN_zero]⟩⟩
  · cases h
def bits_Len32.f (x : Int) : Option Int := if 0 ≤ x ∧ x ≤ 4294967295 then some (Lib.bitLen x.toNat : Int) else none
theorem bits_Len32.calls (a0 : Int) (r : Int) (w : World) (h : bits_Len32.f a0 = some r) :
    Calls Tryz.prog 41 #[.int .u32 a0] w fun e w' => e = .returned (.int .i64 r) ∧ Drawn0 w w' := by
  unfold bits_Len32.f at h
  split at h
  · rename_i hb
    cases h
    refine (Tryz.bits_Len32 a0 w hb.1 hb.2).mono ?_
    rintro e w' ⟨rfl, rfl⟩
    exact ⟨rfl, Drawn0.refl _⟩
  · cases h
def bits_LeadingZeros32.f (x : Int) : Option Int := if 0 ≤ x ∧ x ≤ 4294967295 then some (32 - (Lib.bitLen x.toNat : Int)) else none
theorem bits_LeadingZeros32.calls (a0 : Int) (r : Int) (w : World) (h : bits_LeadingZeros32.f a0 = some r) :
    Calls Tryz.prog 34 #[.int .u32 a0] w fun e w' => e = .returned (.int .i64 r) ∧ Drawn0 w w' := by
  unfold bits_LeadingZeros32.f at h
  split at h
  · rename_i hb
    cases h
    refine (Tryz.bits_LeadingZeros32 a0 w hb.1 hb.2).mono ?_
    rintro e w' ⟨rfl, rfl⟩
    exact ⟨rfl, Drawn0.refl _⟩
  · cases h
end Go.Proofs.YtmjkhbjfacfmcaaGreatDoor
end
section
namespace Go.Proofs.YtmjkhbjfacfmcaaGreatDoor.VX
open Go Go.RowKit Go.Proofs.YtmjkhbjfacfmcaaGreatDoor.NM Go.Proofs.YtmjkhbjfacfmcaaGreatDoor.NT Go.Proofs.YtmjkhbjfacfmcaaGreatDoorW.PrintWords
set_option linter.unusedVariables false
set_option linter.unusedSimpArgs false
theorem fn_lib {X : Ctx} {f : Nat} (vals : List Value) {r : V} {v : Value} (hr : ∀ w ok, RepV w ok r v) (h : ∀ w, X.G w → Calls X.P f vals.toArray w fun e w' => e = .returned v ∧ Below w.heap.size w w') : Fn X f (vals.map .sc) r := by
  intro w ok0 φ vs G ng HR mg lt RA
  have hvs : vs = vals := by
    have h1 := RA.1
    have h2 := RA.2
    rw [List.length_map, List.length_map] at h1
    refine List.ext_getElem h1 fun i hi hj => ?_
    exact repV_sc (h2 i (.v (.sc vals[i])) vs[i] (by simp [List.getElem?_eq_getElem hj]) (by simp [List.getElem?_eq_getElem hi]))
  subst hvs
  refine (h w G).mono ?_
  rintro e w' ⟨rfl, hb⟩
  refine ⟨v, noH, .v r, φ, rfl, ⟨rfl, rfl⟩, ?_, .v _ _ (hr _ _), ?_⟩
  · refine ⟨?_, ?_, ?_, ?_, hb.os.trans HR.os, hb.tape.trans HR.tape, hb.output.trans HR.output, hb.size, HR.ok0⟩
    · intro id b hb; cases hb
    · intro id id' pl pl' hb; cases hb
    · intro id pl hb; cases hb
    · intro b hlt _; exact hb.block b hlt
  · intro k _ hk; cases hk
theorem repV_tu2 {w : World} {ok : Nat → Prop} (a b : Value) : RepV w ok (.tu [.sc a, .sc b]) (.tuple #[a, b]) := by
  refine .tu _ _ rfl fun i x u hx hu => ?_
  match i with
  | 0 => cases hx; cases hu; exact .sc _
  | 1 => cases hx; cases hu; exact .sc _
  | i + 2 => simp at hx
theorem drawn0_below {w w' : World} (h : Drawn0 w w') : Below w.heap.size w w' := by
  obtain ⟨n, rfl⟩ := h
  exact pw_below_drewN (Below.refl _ _) n
noncomputable def ctxAt (w0 : World) : Ctx where
  P := Tryz.prog
  G w := ∀ b, b < w0.heap.size → w.heap[b]? = w0.heap[b]?
  ng := w0.heap.size
  hG w w' h g b hb := (h b hb).trans (g b hb)
  hm := by kernel_rfl
theorem ctx_glw {w0 : World} (h : GLw w0) {w : World} (g : (ctxAt w0).G w) : GLw w := by
  have hs : w0.heap.size ≤ w.heap.size := by
    rcases Nat.lt_or_ge w.heap.size w0.heap.size with h1 | h1
    · have h2 := g w.heap.size h1
      rw [Array.getElem?_eq_none (Nat.le_refl _), Array.getElem?_eq_getElem h1] at h2
      cases h2
    · exact h1
  have h3 : GLw { w0 with heap := w.heap } := h.mono ⟨rfl, rfl, rfl, hs, g⟩
  exact ⟨h3.tab⟩
theorem libS {w0 : World} (h : GLw w0) : LibS (ctxAt w0) where
  P := rfl
  div32 := fun hi lo y hb => fn_lib [.int .u32 hi, .int .u32 lo, .int .u32 y] (fun _ _ => repV_tu2 _ _) fun w _ => (bits_Div32.calls hi lo y _ _ w (by unfold bits_Div32.f; rw [if_pos hb])).mono fun e w' h => ⟨h.1, drawn0_below h.2⟩
  sub32 := fun x y b hb => fn_lib [.int .u32 x, .int .u32 y, .int .u32 b] (fun _ _ => repV_tu2 _ _) fun w _ => (bits_Sub32.calls x y b _ _ w (by unfold bits_Sub32.f; rw [if_pos hb])).mono fun e w' h => ⟨h.1, drawn0_below h.2⟩
  len32 := fun x hb => fn_lib [.int .u32 x] (fun _ _ => .sc _) fun w _ => (bits_Len32.calls x _ w (by unfold bits_Len32.f; rw [if_pos (by omega)])).mono fun e w' h => ⟨h.1, drawn0_below h.2⟩
  lz32 := fun x hb => fn_lib [.int .u32 x] (fun _ _ => .sc _) fun w _ => (bits_LeadingZeros32.calls x _ w (by unfold bits_LeadingZeros32.f; rw [if_pos (by omega)])).mono fun e w' h => ⟨h.1, drawn0_below h.2⟩
  itoa := fun n h0 h1 => fn_lib [.int .i64 n] (fun _ _ => .sc _) fun w g => strconv_Itoa.calls n _ w (ctx_glw h g) (by unfold strconv_Itoa.f; rw [if_pos ⟨h0, h1⟩])
  atoi := fun l hd h0 hl => fn_lib [.string ⟨l.toArray⟩] (fun _ _ => repV_tu2 _ _) fun w _ => strconv_Atoi.calls ⟨l.toArray⟩ _ none w (by
    unfold strconv_Atoi.f
    rw [if_pos (by simp [ByteArray.size]; omega)]
    simp [atoi_digits hd h0 hl])
  trim := fun l hl => fn_lib [.string ⟨l.toArray⟩, .string _] (fun _ _ => .sc _) fun w _ => strings_Trim.calls ⟨l.toArray⟩ _ _ w (by
    unfold strings_Trim.f
    rw [if_pos ⟨rfl, by simp [ByteArray.size]; omega⟩])
  rep := fun l n h0 h1 h2 => fn_lib [.string ⟨l.toArray⟩, .int .i64 n] (fun _ _ => .sc _) fun w _ => strings_Repeat.calls ⟨l.toArray⟩ n _ w (by
    unfold strings_Repeat.f
    rw [if_pos ⟨h0, by omega, by simpa [ByteArray.size] using h1⟩])
theorem fn_walk {w : World} {f : Nat} {args : List V} {r : V} (h : Fn (ctxAt w) f args r) (vals : List Value) (hv : vals.length = args.length) (ha : ∀ (i : Nat) x u, args[i]? = some x → vals[i]? = some u → RepV w (fun b => b < w.heap.size) x u) :
    Calls Tryz.prog f vals.toArray w fun e w' => (∃ v ok, e = .returned v ∧ RepV w' ok r v) ∧ Below w.heap.size w w' := by
  have hM : ∀ b, ¬ Mine noH (fun _ => none) b := fun b ⟨id, pl, h1, _⟩ => by cases h1
  refine (h w (fun b => b < w.heap.size) (fun _ => none) vals (fun b _ => rfl) (Nat.le_refl _) ?_ (fun b hb => absurd hb (hM b)) (fun id hid => by cases hid) ?_).mono ?_
  · exact ⟨fun id b hb => (by cases hb), fun id id' pl pl' hb => (by cases hb), fun id pl hb => (by cases hb), fun _ _ _ => rfl, rfl, rfl, rfl, Nat.le_refl _, fun b hb => ⟨hb, hM b⟩⟩
  · refine ⟨by simpa using hv, fun i x u hx hu => ?_⟩
    rw [List.getElem?_map] at hx
    cases hxx : args[i]? with
    | none => simp [hxx] at hx
    | some x' =>
      simp only [hxx, Option.map_some, Option.some.injEq] at hx
      subst hx
      exact .v _ _ ((ha i x' u hxx hu).mono fun b hb => ⟨⟨.inl hb, hb, fun id pl hid => by cases hid⟩, rfl⟩)
  · rintro e w' ⟨v, H1, r1, φ', rfl, ⟨rfl, rfl⟩, hr, hv, _⟩
    cases hv with | v _ _ hv =>
    exact ⟨⟨v, _, rfl, hv⟩, hr.os, hr.tape, hr.output, hr.size, fun b hb => hr.old b hb (hM b)⟩
def IsRow (k : IntKind) (w : World) (a : Option Addr) (len cap : Nat) (zs : List Int) : Prop :=
  (a = none ∧ len = 0 ∧ cap = 0 ∧ zs = []) ∨
  ∃ x, a = some x ∧ len ≤ cap ∧ cap ≤ maxLen ∧ zs.length = cap ∧ (∀ i, i < zs.length → w.cell? (x.add i) = some (.int k (zs.getD i 0))) ∧ ∀ n ∈ zs, (Lit.int k n).wf = true
def Wf (k : IntKind) (l : List Int) : Prop := ∀ n ∈ l, (Lit.int k n).wf = true
theorem Wf.take {k : IntKind} {l : List Int} (h : Wf k l) (n : Nat) : Wf k (l.take n) := fun x hx => h x (List.mem_of_mem_take hx)
theorem IsRow.wf {k : IntKind} {w : World} {a : Option Addr} {len cap : Nat} {zs : List Int} (h : IsRow k w a len cap zs) : Wf k zs := by
  rcases h with ⟨_, _, _, rfl⟩ | ⟨x, _, _, _, _, _, h⟩
  · intro n hn; cases hn
  · exact h
theorem cell_lt {w : World} {x : Addr} {u : Value} (h : w.cell? x = some u) : x.block < w.heap.size := by
  rcases Nat.lt_or_ge x.block w.heap.size with h1 | h1
  · exact h1
  · simp [World.cell?, Array.getElem?_eq_none h1] at h
theorem IsRow.rep {k : IntKind} {w : World} {a : Option Addr} {len cap : Nat} {zs : List Int} (h : IsRow k w a len cap zs) : RepV w (fun b => b < w.heap.size) (.sl 1 (nums k (zs.take len))) (.slice a len cap) := by
  rcases h with ⟨rfl, rfl, rfl, rfl⟩ | ⟨x, rfl, h1, h2, h3, h4, _⟩
  · exact .sn 1
  · have hl : (zs.take len).length = len := by rw [List.length_take]; omega
    have hc : ∀ j, j < len → w.cell? (x.add j) = some (.int k (zs.getD j 0)) := fun j hj => h4 j (by omega)
    have hget : ∀ (j f : Nat) r y, (nums k (zs.take len))[j]? = some r → r[f]? = some y → j < len ∧ f = 0 ∧ y = .sc (.int k (zs.getD j 0)) := by
      intro j f r y hr hy
      have hj := nums_get_lt hr
      rw [hl] at hj
      rw [nums_get k _ j (by rw [hl]; exact hj)] at hr
      cases hr
      match f with
      | 0 =>
        cases hy
        refine ⟨hj, rfl, ?_⟩
        rw [rd_nat _ _ (by rw [hl]; exact hj), List.getElem_take, List.getD_eq_getElem?_getD, List.getElem?_eq_getElem (by omega)]; rfl
      | f + 1 => simp at hy
    refine .sl 1 _ x len cap (by rw [nums_length, hl]) h1 h2 (by intro r hr; simp only [nums, List.mem_map] at hr; obtain ⟨_, _, rfl⟩ := hr; rfl) (fun h0 => cell_lt (x := x) (u := .int k (zs.getD 0 0)) ?_) (fun j _ => .int k (zs.getD j 0)) ?_ ?_
    · have := hc 0 h0
      simpa [Addr.add] using this
    · intro j f r y hr hy
      obtain ⟨hj, rfl, rfl⟩ := hget j f r y hr hy
      exact ⟨by rw [Nat.mul_one, Nat.add_zero]; exact hc j hj, rfl⟩
    · intro j f r y hr hy
      obtain ⟨hj, rfl, rfl⟩ := hget j f r y hr hy
      exact .sc _
theorem reps_nil {w : World} {ok : Nat → Prop} : ∀ (i : Nat) x u, ([] : List V)[i]? = some x → ([] : List Value)[i]? = some u → RepV w ok x u := fun i x u h => by simp at h
theorem reps_cons {w : World} {ok : Nat → Prop} {v : V} {u : Value} {vs : List V} {us : List Value} (h : RepV w ok v u) (hs : ∀ (i : Nat) x u, vs[i]? = some x → us[i]? = some u → RepV w ok x u) : ∀ (i : Nat) x y, (v :: vs)[i]? = some x → (u :: us)[i]? = some y → RepV w ok x y := fun i x y hx hy => by
  match i with
  | 0 => cases hx; cases hy; exact h
  | i + 1 => exact hs i x y (by simpa using hx) (by simpa using hy)
end Go.Proofs.YtmjkhbjfacfmcaaGreatDoor.VX
end
section
namespace Go.Proofs.YtmjkhbjfacfmcaaGreatDoor.VX
open Go Go.RowKit Go.Proofs.YtmjkhbjfacfmcaaGreatDoor.NM Go.Proofs.YtmjkhbjfacfmcaaGreatDoor.NT Go.Proofs.YtmjkhbjfacfmcaaGreatDoor.RV IntWalk
set_option linter.unusedVariables false
set_option linter.unusedSimpArgs false
variable {X : Ctx}
theorem dig_of_wf {l : List Int} (h : Wf .u32 l) : Dig 4294967296 l := fun x hx => by
  have := h x hx
  simp [Lit.wf, IntKind.min, IntKind.max, IntKind.signed, IntKind.bits] at this
  omega
end Go.Proofs.YtmjkhbjfacfmcaaGreatDoor.VX
end
section
namespace Go.Proofs.YtmjkhbjfacfmcaaGreatDoor.VX
open Go Go.RowKit Go.Proofs.YtmjkhbjfacfmcaaGreatDoor.NM Go.Proofs.YtmjkhbjfacfmcaaGreatDoor.NT Go.Proofs.YtmjkhbjfacfmcaaGreatDoor.RV IntWalk
set_option linter.unusedVariables false
set_option linter.unusedSimpArgs false
variable {X : Ctx}
structure SubInv (r : List Int) (N : Int) (n i : Nat) (o : List Int) : Prop where
  len : o.length = n
  low : ∀ p : Nat, p < i → 0 ≤ rd o (p : Int) ∧ rd o (p : Int) < 1000000
  here : -1 ≤ rd o (i : Int) ∧ rd o (i : Int) < 1000000
  high : ∀ p : Nat, i < p → 0 ≤ rd o (p : Int) ∧ rd o (p : Int) < 1000000
  val : Hold (vl 1000000 o = N + (vl 1000000 r - vl 1000000 (r.take i)))
theorem SubInv.keep {r : List Int} {N : Int} {n i : Nat} {o : List Int} (h : SubInv r N n i o) (hr : Dig 1000000 r) (hi : i < n) (hd : 0 ≤ rd o (i : Int) - rd r (i : Int)) : SubInv r N n (i + 1) (o.set i (rd o (i : Int) - rd r (i : Int))) := by
  have hl := h.len
  have hx := hr.rd (by omega) i
  have hh := h.here
  refine ⟨by rw [List.length_set]; exact hl, fun p hp => ?_, ?_, fun p hp => ?_, ?_⟩
  · by_cases e : i = p
    · subst e; rw [rd_set_eq _ _ _ (by omega)]; omega
    · rw [rd_set_ne _ _ _ _ e]; exact h.low p (by omega)
  · rw [rd_set_ne _ _ _ _ (by omega)]; have := h.high (i + 1) (by omega); omega
  · rw [rd_set_ne _ _ _ _ (by omega)]; exact h.high p (by omega)
  · have hv := h.val
    unfold Hold at hv ⊢
    rw [vl_set _ _ _ _ (by omega), vl_take_succ, hv, show rd o (i : Int) - rd r (i : Int) - rd o (i : Int) = - rd r (i : Int) by omega, Int.mul_neg]
    generalize 1000000 ^ i * rd r (i : Int) = q
    omega
end Go.Proofs.YtmjkhbjfacfmcaaGreatDoor.VX
end
section
namespace Go.Proofs.YtmjkhbjfacfmcaaGreatDoor.VX
open Go Go.RowKit Go.Proofs.YtmjkhbjfacfmcaaGreatDoor.NM Go.Proofs.YtmjkhbjfacfmcaaGreatDoor.NT Go.Proofs.YtmjkhbjfacfmcaaGreatDoor.RV IntWalk
set_option linter.unusedVariables false
set_option linter.unusedSimpArgs false
variable {X : Ctx}
theorem vl_drop_le (l : List Int) (hl : Dig 1000000 l) : ∀ j, vl 1000000 (l.drop j) ≤ vl 1000000 l
  | 0 => by simp
  | j + 1 => by
    refine Int.le_trans ?_ (vl_drop_le l hl j)
    rcases Nat.lt_or_ge j l.length with h | h
    · rw [vl_drop _ _ _ h]
      have h1 := (hl.get j h).1
      have h2 := vl_nonneg (by omega) (hl.drop (j + 1))
      omega
    · rw [vl_drop_out _ _ _ h, vl_drop_out _ _ _ (by omega)]; omega
theorem Uint64_l0 (l : List Int) (hl : Dig 1000000 l) (hn : l.length ≤ 100000000000) {Q : Ex → St → Prop} (hQ : vl 1000000 l < 18446744073709551616 → ∀ S, En S [(4, u64 (vl 1000000 l))] → Q (.x 0) S) (hq : 18446744073709551616 ≤ vl 1000000 l → ∀ S, En S [(2, u64 0), (3, boo false)] → Q .r S) :
    ∀ (j : Nat) (S : St), j ≤ l.length → vl 1000000 (l.drop j) < 18446744073709551616 → En S [(0, .v (i64s l)), (4, u64 (vl 1000000 (l.drop j))), (5, i64 ((j : Int) - 1))] → wpC X F_waypointref01_Uint64_l0 Q S := by
  intro j
  induction j with
  | zero =>
    intro S hj hd he
    rw [List.drop_zero] at hd he
    simp only [En, and_true] at he
    refine wpC_round rfl ?_
    simp (disch := omega) only [sd_t, dec_t, dec_f, i64_in, u32_in, u64_in, i64_quo, u32_quo, u64_quo, rem_in, Int.toNat_of_nonneg, go_sem, reduceCtorEq, ↓reduceIte, Nat.reduceEqDiff, Nat.reduceAdd, Nat.reduceSub, Nat.reduceMul, Nat.reduceLT, Nat.reduceLeDiff, Nat.reduceBEq, Nat.reduceBNe, Nat.reducePow, Nat.reduceDiv, Nat.reduceMod, Int.reduceAdd, Int.reduceSub, Int.reduceMul, Int.reduceLT, Int.reduceLE, Int.reduceEq, Int.reduceNe, Int.reduceNeg, Int.reduceToNat, Int.reducePow, Int.reduceDiv, Int.reduceMod, F_waypointref01_Uint64_b0, he]
    refine hQ hd _ ?_
    simp only [go_sem, reduceCtorEq, ↓reduceIte, Nat.reduceEqDiff, Nat.reduceAdd, Nat.reduceSub, Nat.reduceMul, Nat.reduceLT, Nat.reduceLeDiff, Nat.reduceBEq, Nat.reduceBNe, Nat.reducePow, Nat.reduceDiv, Nat.reduceMod, Int.reduceAdd, Int.reduceSub, Int.reduceMul, Int.reduceLT, Int.reduceLE, Int.reduceEq, Int.reduceNe, Int.reduceNeg, Int.reduceToNat, Int.reducePow, Int.reduceDiv, Int.reduceMod, he]
  | succ j ih =>
    intro S hj hd he
    have hx := hl.rd (by omega) j
    have e := vl_drop 1000000 l j (by omega)
    rw [← rd_nat l j (by omega)] at e
    have h0 := vl_nonneg (by omega) (hl.drop (j + 1))
    have h1 := vl_drop_le l hl j
    generalize hv : vl 1000000 (l.drop (j + 1)) = v at *
    simp only [En, and_true] at he
    refine wpC_round rfl ?_
    by_cases hc : (18446744073709551615 - rd l (j : Int)) / 1000000 < v
    · simp (disch := omega) only [sd_t, dec_t, dec_f, i64_in, u32_in, u64_in, i64_quo, u32_quo, u64_quo, rem_in, Int.toNat_of_nonneg, go_sem, reduceCtorEq, ↓reduceIte, Nat.reduceEqDiff, Nat.reduceAdd, Nat.reduceSub, Nat.reduceMul, Nat.reduceLT, Nat.reduceLeDiff, Nat.reduceBEq, Nat.reduceBNe, Nat.reducePow, Nat.reduceDiv, Nat.reduceMod, Int.reduceAdd, Int.reduceSub, Int.reduceMul, Int.reduceLT, Int.reduceLE, Int.reduceEq, Int.reduceNe, Int.reduceNeg, Int.reduceToNat, Int.reducePow, Int.reduceDiv, Int.reduceMod, F_waypointref01_Uint64_b0, he]
      refine hq (by omega) _ ?_
      simp only [go_sem, reduceCtorEq, ↓reduceIte, Nat.reduceEqDiff, Nat.reduceAdd, Nat.reduceSub, Nat.reduceMul, Nat.reduceLT, Nat.reduceLeDiff, Nat.reduceBEq, Nat.reduceBNe, Nat.reducePow, Nat.reduceDiv, Nat.reduceMod, Int.reduceAdd, Int.reduceSub, Int.reduceMul, Int.reduceLT, Int.reduceLE, Int.reduceEq, Int.reduceNe, Int.reduceNeg, Int.reduceToNat, Int.reducePow, Int.reduceDiv, Int.reduceMod, he]
    · simp (disch := omega) only [sd_t, dec_t, dec_f, i64_in, u32_in, u64_in, i64_quo, u32_quo, u64_quo, rem_in, Int.toNat_of_nonneg, go_sem, reduceCtorEq, ↓reduceIte, Nat.reduceEqDiff, Nat.reduceAdd, Nat.reduceSub, Nat.reduceMul, Nat.reduceLT, Nat.reduceLeDiff, Nat.reduceBEq, Nat.reduceBNe, Nat.reducePow, Nat.reduceDiv, Nat.reduceMod, Int.reduceAdd, Int.reduceSub, Int.reduceMul, Int.reduceLT, Int.reduceLE, Int.reduceEq, Int.reduceNe, Int.reduceNeg, Int.reduceToNat, Int.reducePow, Int.reduceDiv, Int.reduceMod, F_waypointref01_Uint64_b0, he]
      refine ih _ (by omega) (by omega) ?_
      rw [e, Int.add_comm, Int.mul_comm]
      simp only [go_sem, reduceCtorEq, ↓reduceIte, Nat.reduceEqDiff, Nat.reduceAdd, Nat.reduceSub, Nat.reduceMul, Nat.reduceLT, Nat.reduceLeDiff, Nat.reduceBEq, Nat.reduceBNe, Nat.reducePow, Nat.reduceDiv, Nat.reduceMod, Int.reduceAdd, Int.reduceSub, Int.reduceMul, Int.reduceLT, Int.reduceLE, Int.reduceEq, Int.reduceNe, Int.reduceNeg, Int.reduceToNat, Int.reducePow, Int.reduceDiv, Int.reduceMod, he]
theorem Uint64_ok (hP : X.P = Tryz.prog) (a : Nat) (ha : a < 18446744073709551616) : Fn X 15 [i64s (dg 1000000 a)] (.tu [.sc (.int .u64 a), .sc (.bool true)]) := by
  have hl : (dg 1000000 a).length ≤ 4 := dg_length (by omega) (by omega)
  refine W_waypointref01_Uint64 hP rfl ?_
  simp (disch := omega) only [sd_t, dec_t, dec_f, i64_in, u32_in, u64_in, i64_quo, u32_quo, u64_quo, rem_in, Int.toNat_of_nonneg, go_sem, reduceCtorEq, ↓reduceIte, Nat.reduceEqDiff, Nat.reduceAdd, Nat.reduceSub, Nat.reduceMul, Nat.reduceLT, Nat.reduceLeDiff, Nat.reduceBEq, Nat.reduceBNe, Nat.reducePow, Nat.reduceDiv, Nat.reduceMod, Int.reduceAdd, Int.reduceSub, Int.reduceMul, Int.reduceLT, Int.reduceLE, Int.reduceEq, Int.reduceNe, Int.reduceNeg, Int.reduceToNat, Int.reducePow, Int.reduceDiv, Int.reduceMod, F_waypointref01_Uint64]
  refine Uint64_l0 (dg 1000000 a) (dig6 a) (by omega) ?_ ?_ (dg 1000000 a).length _ (Nat.le_refl _) (by rw [List.drop_length]; simp [vl]) ?_
  · intro _ S he
    rw [vl6] at he
    simp only [En, and_true] at he
    simp (disch := omega) only [sd_t, dec_t, dec_f, i64_in, u32_in, u64_in, i64_quo, u32_quo, u64_quo, rem_in, Int.toNat_of_nonneg, go_sem, reduceCtorEq, ↓reduceIte, Nat.reduceEqDiff, Nat.reduceAdd, Nat.reduceSub, Nat.reduceMul, Nat.reduceLT, Nat.reduceLeDiff, Nat.reduceBEq, Nat.reduceBNe, Nat.reducePow, Nat.reduceDiv, Nat.reduceMod, Int.reduceAdd, Int.reduceSub, Int.reduceMul, Int.reduceLT, Int.reduceLE, Int.reduceEq, Int.reduceNe, Int.reduceNeg, Int.reduceToNat, Int.reducePow, Int.reduceDiv, Int.reduceMod, F_waypointref01_Uint64_k0, R_waypointref01_Uint64, he]
  · intro h; rw [vl6] at h; omega
  · simp only [go_sem, reduceCtorEq, ↓reduceIte, Nat.reduceEqDiff, Nat.reduceAdd, Nat.reduceSub, Nat.reduceMul, Nat.reduceLT, Nat.reduceLeDiff, Nat.reduceBEq, Nat.reduceBNe, Nat.reducePow, Nat.reduceDiv, Nat.reduceMod, Int.reduceAdd, Int.reduceSub, Int.reduceMul, Int.reduceLT, Int.reduceLE, Int.reduceEq, Int.reduceNe, Int.reduceNeg, Int.reduceToNat, Int.reducePow, Int.reduceDiv, Int.reduceMod, List.drop_length, vl]
theorem Uint64_big (hP : X.P = Tryz.prog) (a : Nat) (ha : 18446744073709551616 ≤ a) (hl : (dg 1000000 a).length ≤ 100000000000) : Fn X 15 [i64s (dg 1000000 a)] (.tu [.sc (.int .u64 0), .sc (.bool false)]) := by
  refine W_waypointref01_Uint64 hP rfl ?_
  simp (disch := omega) only [sd_t, dec_t, dec_f, i64_in, u32_in, u64_in, i64_quo, u32_quo, u64_quo, rem_in, Int.toNat_of_nonneg, go_sem, reduceCtorEq, ↓reduceIte, Nat.reduceEqDiff, Nat.reduceAdd, Nat.reduceSub, Nat.reduceMul, Nat.reduceLT, Nat.reduceLeDiff, Nat.reduceBEq, Nat.reduceBNe, Nat.reducePow, Nat.reduceDiv, Nat.reduceMod, Int.reduceAdd, Int.reduceSub, Int.reduceMul, Int.reduceLT, Int.reduceLE, Int.reduceEq, Int.reduceNe, Int.reduceNeg, Int.reduceToNat, Int.reducePow, Int.reduceDiv, Int.reduceMod, F_waypointref01_Uint64]
  refine Uint64_l0 (dg 1000000 a) (dig6 a) (by omega) ?_ ?_ (dg 1000000 a).length _ (Nat.le_refl _) (by rw [List.drop_length]; simp [vl]) ?_
  · intro h; rw [vl6] at h; omega
  · intro _ S he
    simp only [En, and_true] at he
    simp (disch := omega) only [sd_t, dec_t, dec_f, i64_in, u32_in, u64_in, i64_quo, u32_quo, u64_quo, rem_in, Int.toNat_of_nonneg, go_sem, reduceCtorEq, ↓reduceIte, Nat.reduceEqDiff, Nat.reduceAdd, Nat.reduceSub, Nat.reduceMul, Nat.reduceLT, Nat.reduceLeDiff, Nat.reduceBEq, Nat.reduceBNe, Nat.reducePow, Nat.reduceDiv, Nat.reduceMod, Int.reduceAdd, Int.reduceSub, Int.reduceMul, Int.reduceLT, Int.reduceLE, Int.reduceEq, Int.reduceNe, Int.reduceNeg, Int.reduceToNat, Int.reducePow, Int.reduceDiv, Int.reduceMod, R_waypointref01_Uint64, he]
  · simp only [go_sem, reduceCtorEq, ↓reduceIte, Nat.reduceEqDiff, Nat.reduceAdd, Nat.reduceSub, Nat.reduceMul, Nat.reduceLT, Nat.reduceLeDiff, Nat.reduceBEq, Nat.reduceBNe, Nat.reducePow, Nat.reduceDiv, Nat.reduceMod, Int.reduceAdd, Int.reduceSub, Int.reduceMul, Int.reduceLT, Int.reduceLE, Int.reduceEq, Int.reduceNe, Int.reduceNeg, Int.reduceToNat, Int.reducePow, Int.reduceDiv, Int.reduceMod, List.drop_length, vl]
theorem Uint64_fn (hP : X.P = Tryz.prog) (a : Nat) (hl : (dg 1000000 a).length ≤ 100000000000) : Fn X 15 [i64s (dg 1000000 a)] (.tu [.sc (.int .u64 (if a < 18446744073709551616 then a else 0 : Nat)), .sc (.bool (decide (a < 18446744073709551616)))]) := by
  by_cases h : a < 18446744073709551616
  · rw [if_pos h, decide_eq_true h]; exact Uint64_ok hP a h
  · rw [if_neg h, decide_eq_false h]; exact Uint64_big hP a (by omega) hl
end Go.Proofs.YtmjkhbjfacfmcaaGreatDoor.VX
end
section
namespace Go.Proofs.YtmjkhbjfacfmcaaGreatDoor.VX
open Go Go.RowKit Go.Proofs.YtmjkhbjfacfmcaaGreatDoor.NM Go.Proofs.YtmjkhbjfacfmcaaGreatDoor.NT Go.Proofs.YtmjkhbjfacfmcaaGreatDoor.RV IntWalk
set_option linter.unusedVariables false
set_option linter.unusedSimpArgs false
variable {X : Ctx}
theorem nbits_half {n : Nat} (h : 0 < n) : nbits n = nbits (n / 2) + 1 := by
  obtain ⟨k, h1, h2, h3⟩ := nbits_spec (n := n) (by omega)
  rw [h1]
  match k with
  | 0 =>
    have : n = 1 := by omega
    subst this
    rfl
  | k + 1 =>
    rw [Nat.pow_succ] at h2 h3
    rw [nbits_of (n := n / 2) (k := k) (by omega) (by omega)]
theorem nbits_le {n k : Nat} (h : (dg 1000000 n).length ≤ k) : nbits n ≤ 20 * k := by
  rcases Nat.eq_zero_or_pos n with h0 | h0
  · subst h0; unfold nbits; rw [if_pos rfl]; omega
  · obtain ⟨j, h1, h2, h3⟩ := nbits_spec (n := n) (by omega)
    have h4 := lt_pow_length (B := 1000000) (by omega) n
    have h5 : (1000000 : Nat) ^ (dg 1000000 n).length ≤ 2 ^ (20 * k) := by
      rw [Nat.pow_mul]
      exact Nat.le_trans (Nat.pow_le_pow_left (by omega) _) (Nat.pow_le_pow_right (by omega) h)
    have h6 : 2 ^ j < 2 ^ (20 * k) := by omega
    have := (Nat.pow_lt_pow_iff_right (a := 2) (by omega)).1 h6
    omega
theorem len_mono6 {a b : Nat} (h : a ≤ b) : (dg 1000000 a).length ≤ (dg 1000000 b).length := dg_length (by omega) (Nat.lt_of_le_of_lt h (lt_pow_length (by omega) b))
theorem Bits_l0R (l : List Int) (c : Int) (hl : Dig 1000000 l) (hn : l.length ≤ 100000000000) {Q : Ex → St → Prop} (hQ : ∀ S o, Dig 1000000 o → o.length = l.length → 2 * vl 1000000 o ≤ vl 1000000 l → vl 1000000 l ≤ 2 * vl 1000000 o + 1 → En S [(3, i64 c), (4, .os 100 0 l.length)] → Hp S [(100, .p 3 1 (nums .i64 o))] → Q (.x 2) S) :
    ∀ (j : Nat) (o : List Int) (b : Int) (S : St), j ≤ l.length → o.length = l.length → Dig 1000000 o → 0 ≤ b → b ≤ 1 → Hold (2 * vl 1000000 (o.drop j) + b = vl 1000000 (l.drop j)) →
    En S [(0, .v (i64s l)), (3, i64 c), (4, .os 100 0 l.length), (5, i64 b), (6, i64 ((j : Int) - 1))] → Hp S [(100, .p 3 1 (nums .i64 o))] → wpC X F_waypointref01_Bits_l0 Q S := by
  intro j
  induction j with
  | zero =>
    intro o b S hj ho hd b0 b1 hv he hh
    unfold Hold at hv
    rw [List.drop_zero, List.drop_zero] at hv
    simp only [En, Hp, and_true] at he hh
    refine wpC_round rfl ?_
    simp (disch := omega) only [sd_t, dec_t, dec_f, i64_in, u32_in, u64_in, i64_quo, u32_quo, u64_quo, rem_in, Int.toNat_of_nonneg, go_sem, reduceCtorEq, ↓reduceIte, Nat.reduceEqDiff, Nat.reduceAdd, Nat.reduceSub, Nat.reduceMul, Nat.reduceLT, Nat.reduceLeDiff, Nat.reduceBEq, Nat.reduceBNe, Nat.reducePow, Nat.reduceDiv, Nat.reduceMod, Int.reduceAdd, Int.reduceSub, Int.reduceMul, Int.reduceLT, Int.reduceLE, Int.reduceEq, Int.reduceNe, Int.reduceNeg, Int.reduceToNat, Int.reducePow, Int.reduceDiv, Int.reduceMod, F_waypointref01_Bits_b0, he, hh]
    refine hQ _ o hd ho (by omega) (by omega) ?_ ?_ <;> simp only [go_sem, reduceCtorEq, ↓reduceIte, Nat.reduceEqDiff, Nat.reduceAdd, Nat.reduceSub, Nat.reduceMul, Nat.reduceLT, Nat.reduceLeDiff, Nat.reduceBEq, Nat.reduceBNe, Nat.reducePow, Nat.reduceDiv, Nat.reduceMod, Int.reduceAdd, Int.reduceSub, Int.reduceMul, Int.reduceLT, Int.reduceLE, Int.reduceEq, Int.reduceNe, Int.reduceNeg, Int.reduceToNat, Int.reducePow, Int.reduceDiv, Int.reduceMod, he, hh]
  | succ j ih =>
    intro o b S hj ho hd b0 b1 hv he hh
    have hx := hl.rd (by omega) j
    have e1 := vl_drop 1000000 l j (by omega)
    have e2 := vl_drop 1000000 (o.set j ((b * 1000000 + rd l j) / 2)) j (by rw [List.length_set]; omega)
    rw [← rd_nat l j (by omega)] at e1
    have ed : (o.set j ((b * 1000000 + rd l j) / 2)).drop (j + 1) = o.drop (j + 1) := by rw [List.drop_set_of_lt (by omega)]
    rw [← rd_nat (o.set j ((b * 1000000 + rd l j) / 2)) j (by rw [List.length_set]; omega), rd_set_eq _ _ _ (by omega), ed] at e2
    simp only [En, Hp, and_true] at he hh
    refine wpC_round rfl ?_
    simp (disch := omega) only [sd_t, dec_t, dec_f, i64_in, u32_in, u64_in, i64_quo, u32_quo, u64_quo, rem_in, Int.toNat_of_nonneg, go_sem, reduceCtorEq, ↓reduceIte, Nat.reduceEqDiff, Nat.reduceAdd, Nat.reduceSub, Nat.reduceMul, Nat.reduceLT, Nat.reduceLeDiff, Nat.reduceBEq, Nat.reduceBNe, Nat.reducePow, Nat.reduceDiv, Nat.reduceMod, Int.reduceAdd, Int.reduceSub, Int.reduceMul, Int.reduceLT, Int.reduceLE, Int.reduceEq, Int.reduceNe, Int.reduceNeg, Int.reduceToNat, Int.reducePow, Int.reduceDiv, Int.reduceMod, F_waypointref01_Bits_b0, he, hh, ho]
    refine ih (o.set j ((b * 1000000 + rd l j) / 2)) ((b * 1000000 + rd l j) % 2) _ (by omega) (by rw [List.length_set]; exact ho) (hd.set j (by omega) (by omega)) (by omega) (by omega) ?_ ?_ ?_
    · unfold Hold at hv ⊢
      rw [e1, e2]
      omega
    · simp only [go_sem, reduceCtorEq, ↓reduceIte, Nat.reduceEqDiff, Nat.reduceAdd, Nat.reduceSub, Nat.reduceMul, Nat.reduceLT, Nat.reduceLeDiff, Nat.reduceBEq, Nat.reduceBNe, Nat.reducePow, Nat.reduceDiv, Nat.reduceMod, Int.reduceAdd, Int.reduceSub, Int.reduceMul, Int.reduceLT, Int.reduceLE, Int.reduceEq, Int.reduceNe, Int.reduceNeg, Int.reduceToNat, Int.reducePow, Int.reduceDiv, Int.reduceMod, he, hh]
    · simp only [go_sem, reduceCtorEq, ↓reduceIte, Nat.reduceEqDiff, Nat.reduceAdd, Nat.reduceSub, Nat.reduceMul, Nat.reduceLT, Nat.reduceLeDiff, Nat.reduceBEq, Nat.reduceBNe, Nat.reducePow, Nat.reduceDiv, Nat.reduceMod, Int.reduceAdd, Int.reduceSub, Int.reduceMul, Int.reduceLT, Int.reduceLE, Int.reduceEq, Int.reduceNe, Int.reduceNeg, Int.reduceToNat, Int.reducePow, Int.reduceDiv, Int.reduceMod, he, hh]
theorem Bits_l1R (hP : X.P = Tryz.prog) (N : Nat) {Q : Ex → St → Prop} (hQ : ∀ S, En S [(3, i64 N)] → Q (.x 0) S) : ∀ (n c : Nat) (S : St), (dg 1000000 n).length ≤ 100000000000 → c + nbits n = N → N ≤ 1000000000000000 →
    En S [(0, .v (i64s (dg 1000000 n))), (3, i64 c)] → wpC X F_waypointref01_Bits_l1 Q S := by
  intro n
  induction n using Nat.strongRecOn with
  | _ n ih =>
    intro c S hl hc hN he
    simp only [En, and_true] at he
    refine wpC_round rfl ?_
    rcases Nat.eq_zero_or_pos n with h0 | h0
    · subst h0
      have hcN : c = N := by unfold nbits at hc; rw [if_pos rfl] at hc; omega
      subst hcN
      rw [dg_zero] at he
      simp (disch := omega) only [sd_t, dec_t, dec_f, i64_in, u32_in, u64_in, i64_quo, u32_quo, u64_quo, rem_in, Int.toNat_of_nonneg, go_sem, reduceCtorEq, ↓reduceIte, Nat.reduceEqDiff, Nat.reduceAdd, Nat.reduceSub, Nat.reduceMul, Nat.reduceLT, Nat.reduceLeDiff, Nat.reduceBEq, Nat.reduceBNe, Nat.reducePow, Nat.reduceDiv, Nat.reduceMod, Int.reduceAdd, Int.reduceSub, Int.reduceMul, Int.reduceLT, Int.reduceLE, Int.reduceEq, Int.reduceNe, Int.reduceNeg, Int.reduceToNat, Int.reducePow, Int.reduceDiv, Int.reduceMod, F_waypointref01_Bits_b1, he, List.length_nil]
      refine hQ _ ?_
      simp only [go_sem, reduceCtorEq, ↓reduceIte, Nat.reduceEqDiff, Nat.reduceAdd, Nat.reduceSub, Nat.reduceMul, Nat.reduceLT, Nat.reduceLeDiff, Nat.reduceBEq, Nat.reduceBNe, Nat.reducePow, Nat.reduceDiv, Nat.reduceMod, Int.reduceAdd, Int.reduceSub, Int.reduceMul, Int.reduceLT, Int.reduceLE, Int.reduceEq, Int.reduceNe, Int.reduceNeg, Int.reduceToNat, Int.reducePow, Int.reduceDiv, Int.reduceMod, he]
    · have hp : 0 < (dg 1000000 n).length := by rw [dg_pos (by omega) h0]; simp
      have hb := nbits_half h0
      simp (disch := omega) only [sd_t, dec_t, dec_f, i64_in, u32_in, u64_in, i64_quo, u32_quo, u64_quo, rem_in, Int.toNat_of_nonneg, go_sem, reduceCtorEq, ↓reduceIte, Nat.reduceEqDiff, Nat.reduceAdd, Nat.reduceSub, Nat.reduceMul, Nat.reduceLT, Nat.reduceLeDiff, Nat.reduceBEq, Nat.reduceBNe, Nat.reducePow, Nat.reduceDiv, Nat.reduceMod, Int.reduceAdd, Int.reduceSub, Int.reduceMul, Int.reduceLT, Int.reduceLE, Int.reduceEq, Int.reduceNe, Int.reduceNeg, Int.reduceToNat, Int.reducePow, Int.reduceDiv, Int.reduceMod, F_waypointref01_Bits_b1, he]
      refine Bits_l0R (dg 1000000 n) c (dig6 n) hl ?_ (dg 1000000 n).length (List.replicate (dg 1000000 n).length 0) 0 _ (Nat.le_refl _) (by simp) (Dig.rep (by omega) _) (by omega) (by omega) (by unfold Hold; simp [vl]) ?_ ?_
      · intro S o hd ho v1 v2 he hh
        rw [vl6] at v1 v2
        simp only [En, Hp, and_true] at he hh
        simp (disch := omega) only [sd_t, dec_t, dec_f, i64_in, u32_in, u64_in, i64_quo, u32_quo, u64_quo, rem_in, Int.toNat_of_nonneg, go_sem, reduceCtorEq, ↓reduceIte, Nat.reduceEqDiff, Nat.reduceAdd, Nat.reduceSub, Nat.reduceMul, Nat.reduceLT, Nat.reduceLeDiff, Nat.reduceBEq, Nat.reduceBNe, Nat.reducePow, Nat.reduceDiv, Nat.reduceMod, Int.reduceAdd, Int.reduceSub, Int.reduceMul, Int.reduceLT, Int.reduceLE, Int.reduceEq, Int.reduceNe, Int.reduceNeg, Int.reduceToNat, Int.reducePow, Int.reduceDiv, Int.reduceMod, F_waypointref01_Bits_k0, he, hh]
        refine cp_of (without_nat hP (by omega) hd (n := n / 2) (by omega)) (by (simp [List.take_of_length_le, ho])) ?_
        simp (disch := omega) only [sd_t, dec_t, dec_f, i64_in, u32_in, u64_in, i64_quo, u32_quo, u64_quo, rem_in, Int.toNat_of_nonneg, go_sem, reduceCtorEq, ↓reduceIte, Nat.reduceEqDiff, Nat.reduceAdd, Nat.reduceSub, Nat.reduceMul, Nat.reduceLT, Nat.reduceLeDiff, Nat.reduceBEq, Nat.reduceBNe, Nat.reducePow, Nat.reduceDiv, Nat.reduceMod, Int.reduceAdd, Int.reduceSub, Int.reduceMul, Int.reduceLT, Int.reduceLE, Int.reduceEq, Int.reduceNe, Int.reduceNeg, Int.reduceToNat, Int.reducePow, Int.reduceDiv, Int.reduceMod, he, hh]
        refine ih (n / 2) (by omega) (c + 1) _ (Nat.le_trans (len_mono6 (by omega)) hl) (by omega) hN ?_
        simp only [go_sem, reduceCtorEq, ↓reduceIte, Nat.reduceEqDiff, Nat.reduceAdd, Nat.reduceSub, Nat.reduceMul, Nat.reduceLT, Nat.reduceLeDiff, Nat.reduceBEq, Nat.reduceBNe, Nat.reducePow, Nat.reduceDiv, Nat.reduceMod, Int.reduceAdd, Int.reduceSub, Int.reduceMul, Int.reduceLT, Int.reduceLE, Int.reduceEq, Int.reduceNe, Int.reduceNeg, Int.reduceToNat, Int.reducePow, Int.reduceDiv, Int.reduceMod, he]
      · simp only [go_sem, reduceCtorEq, ↓reduceIte, Nat.reduceEqDiff, Nat.reduceAdd, Nat.reduceSub, Nat.reduceMul, Nat.reduceLT, Nat.reduceLeDiff, Nat.reduceBEq, Nat.reduceBNe, Nat.reducePow, Nat.reduceDiv, Nat.reduceMod, Int.reduceAdd, Int.reduceSub, Int.reduceMul, Int.reduceLT, Int.reduceLE, Int.reduceEq, Int.reduceNe, Int.reduceNeg, Int.reduceToNat, Int.reducePow, Int.reduceDiv, Int.reduceMod, he]
      · simp only [go_sem, reduceCtorEq, ↓reduceIte, Nat.reduceEqDiff, Nat.reduceAdd, Nat.reduceSub, Nat.reduceMul, Nat.reduceLT, Nat.reduceLeDiff, Nat.reduceBEq, Nat.reduceBNe, Nat.reducePow, Nat.reduceDiv, Nat.reduceMod, Int.reduceAdd, Int.reduceSub, Int.reduceMul, Int.reduceLT, Int.reduceLE, Int.reduceEq, Int.reduceNe, Int.reduceNeg, Int.reduceToNat, Int.reducePow, Int.reduceDiv, Int.reduceMod, he]
theorem Bits_fnR (hP : X.P = Tryz.prog) (n : Nat) (hl : (dg 1000000 n).length ≤ 1000000000000) (hb : nbits n ≤ 1000000000000000) (hl2 : (dg 1000000 n).length ≤ 100000000000) : Fn X 19 [i64s (dg 1000000 n)] (.sc (.int .i64 (nbits n))) := by
  refine W_waypointref01_Bits hP rfl ?_
  simp (disch := omega) only [sd_t, dec_t, dec_f, i64_in, u32_in, u64_in, i64_quo, u32_quo, u64_quo, rem_in, Int.toNat_of_nonneg, go_sem, reduceCtorEq, ↓reduceIte, Nat.reduceEqDiff, Nat.reduceAdd, Nat.reduceSub, Nat.reduceMul, Nat.reduceLT, Nat.reduceLeDiff, Nat.reduceBEq, Nat.reduceBNe, Nat.reducePow, Nat.reduceDiv, Nat.reduceMod, Int.reduceAdd, Int.reduceSub, Int.reduceMul, Int.reduceLT, Int.reduceLE, Int.reduceEq, Int.reduceNe, Int.reduceNeg, Int.reduceToNat, Int.reducePow, Int.reduceDiv, Int.reduceMod, F_waypointref01_Bits]
  refine Bits_l1R hP (nbits n) ?_ n 0 _ hl2 (by omega) hb ?_
  · intro S he
    simp only [En, and_true] at he
    simp (disch := omega) only [sd_t, dec_t, dec_f, i64_in, u32_in, u64_in, i64_quo, u32_quo, u64_quo, rem_in, Int.toNat_of_nonneg, go_sem, reduceCtorEq, ↓reduceIte, Nat.reduceEqDiff, Nat.reduceAdd, Nat.reduceSub, Nat.reduceMul, Nat.reduceLT, Nat.reduceLeDiff, Nat.reduceBEq, Nat.reduceBNe, Nat.reducePow, Nat.reduceDiv, Nat.reduceMod, Int.reduceAdd, Int.reduceSub, Int.reduceMul, Int.reduceLT, Int.reduceLE, Int.reduceEq, Int.reduceNe, Int.reduceNeg, Int.reduceToNat, Int.reducePow, Int.reduceDiv, Int.reduceMod, F_waypointref01_Bits_k1, R_waypointref01_Bits, he]
  · simp only [go_sem, reduceCtorEq, ↓reduceIte, Nat.reduceEqDiff, Nat.reduceAdd, Nat.reduceSub, Nat.reduceMul, Nat.reduceLT, Nat.reduceLeDiff, Nat.reduceBEq, Nat.reduceBNe, Nat.reducePow, Nat.reduceDiv, Nat.reduceMod, Int.reduceAdd, Int.reduceSub, Int.reduceMul, Int.reduceLT, Int.reduceLE, Int.reduceEq, Int.reduceNe, Int.reduceNeg, Int.reduceToNat, Int.reducePow, Int.reduceDiv, Int.reduceMod]
    try rfl
end Go.Proofs.YtmjkhbjfacfmcaaGreatDoor.VX
end
section
namespace Go.Proofs.YtmjkhbjfacfmcaaGreatDoor.VX
open Go Go.RowKit Go.Proofs.YtmjkhbjfacfmcaaGreatDoor.NM IntWalk
set_option linter.unusedVariables false
set_option linter.unusedSimpArgs false
variable {X : Ctx}
theorem or_add64 {x y k : Nat} (hy : y < 2 ^ k) (hx : 2 ^ k ∣ x) (hxl : x < 18446744073709551616) (hyl : y < 18446744073709551616) : Go.bits .or .u64 (y : Int) (x : Int) = (y : Int) + (x : Int) := by
  rw [u64_or_nat y x hyl hxl]
  obtain ⟨q, rfl⟩ := hx
  rw [Nat.or_comm, ← Nat.two_pow_add_eq_or_of_lt hy]
  omega
theorem or_step (l : List Int) (hd : Dig 4294967296 l) (i : Nat) (hi : i < 2) (hl : i < l.length) : Go.bits .or .u64 (vl 4294967296 (l.take i)) (IntKind.u64.wrap (rd l (i : Int) * 2 ^ (32 * i))) = vl 4294967296 (l.take (i + 1)) := by
  have hx := hd.rd (by omega) i
  obtain ⟨x, hxx⟩ : ∃ x : Nat, rd l (i : Int) = (x : Int) := ⟨(rd l (i : Int)).toNat, by omega⟩
  rw [vl_take_succ, hxx]
  match i, hi with
  | 0, _ =>
    have e := or_add64 (x := x) (y := 0) (k := 0) (by simp) (by simp) (by omega) (by omega)
    have hw : IntKind.u64.wrap ((x : Int) * 2 ^ (32 * 0)) = (x : Int) := by rw [IntKind.wrap_u64]; omega
    rw [hw, List.take_zero, vl]
    refine (show Go.bits .or .u64 ((0 : Nat) : Int) (x : Int) = _ from e).trans ?_
    simp
  | 1, _ =>
    have hy := hd.rd (by omega) 0
    obtain ⟨y, hyy⟩ : ∃ y : Nat, rd l ((0 : Nat) : Int) = (y : Int) := ⟨(rd l ((0 : Nat) : Int)).toNat, by omega⟩
    have e := or_add64 (x := 4294967296 * x) (y := y) (k := 32) (by omega) (Nat.dvd_mul_right _ _) (by omega) (by omega)
    have hw : IntKind.u64.wrap ((x : Int) * 2 ^ (32 * 1)) = ((4294967296 * x : Nat) : Int) := by
      rw [IntKind.wrap_u64]
      omega
    have h0 : vl 4294967296 (l.take 1) = (y : Int) := by
      rw [vl_take_succ 4294967296 l 0, hyy]; simp [vl]
    rw [hw, h0, e]
    omega
theorem Uint64n_l0 (l : List Int) (hl : l.length ≤ 2) (hd : Dig 4294967296 l) {Q : Ex → St → Prop} (hQ : ∀ S, En S [(4, u64 (vl 4294967296 l))] → Q (.x 0) S) :
    ∀ (m i : Nat) (S : St), m + i = l.length → En S [(4, u64 (vl 4294967296 (l.take i))), (12, .v (u32s l)), (13, i64 l.length), (14, i64 i)] → Hp S [(100, .m 26 [.v (u32s l)])] → wpC X F_nat_Uint64_l0 Q S := by
  intro m
  induction m with
  | zero =>
    intro i S hi he hh
    rw [vl_take_all _ _ _ (by omega)] at he
    simp only [En, Hp, and_true] at he hh
    refine wpC_round rfl ?_
    simp (disch := omega) only [sd_t, dec_t, dec_f, i64_in, u32_in, u64_in, i64_quo, u32_quo, u64_quo, rem_in, Int.toNat_of_nonneg, go_sem, reduceCtorEq, ↓reduceIte, Nat.reduceEqDiff, Nat.reduceAdd, Nat.reduceSub, Nat.reduceMul, Nat.reduceLT, Nat.reduceLeDiff, Nat.reduceBEq, Nat.reduceBNe, Nat.reducePow, Nat.reduceDiv, Nat.reduceMod, Int.reduceAdd, Int.reduceSub, Int.reduceMul, Int.reduceLT, Int.reduceLE, Int.reduceEq, Int.reduceNe, Int.reduceNeg, Int.reduceToNat, Int.reducePow, Int.reduceDiv, Int.reduceMod, F_nat_Uint64_b0, he, hh]
    refine hQ _ ?_
    simp only [go_sem, reduceCtorEq, ↓reduceIte, Nat.reduceEqDiff, Nat.reduceAdd, Nat.reduceSub, Nat.reduceMul, Nat.reduceLT, Nat.reduceLeDiff, Nat.reduceBEq, Nat.reduceBNe, Nat.reducePow, Nat.reduceDiv, Nat.reduceMod, Int.reduceAdd, Int.reduceSub, Int.reduceMul, Int.reduceLT, Int.reduceLE, Int.reduceEq, Int.reduceNe, Int.reduceNeg, Int.reduceToNat, Int.reducePow, Int.reduceDiv, Int.reduceMod, he]
  | succ m ih =>
    intro i S hi he hh
    simp only [En, Hp, and_true] at he hh
    have hx := hd.rd (by omega) i
    have h32 : (32 * (i : Int)).toNat = 32 * i := by omega
    have hle : (32 * i ≤ 64) = True := eq_true (by omega)
    refine wpC_round rfl ?_
    simp (disch := omega) only [sd_t, dec_t, dec_f, i64_in, u32_in, u64_in, i64_quo, u32_quo, u64_quo, rem_in, Int.toNat_of_nonneg, go_sem, reduceCtorEq, ↓reduceIte, Nat.reduceEqDiff, Nat.reduceAdd, Nat.reduceSub, Nat.reduceMul, Nat.reduceLT, Nat.reduceLeDiff, Nat.reduceBEq, Nat.reduceBNe, Nat.reducePow, Nat.reduceDiv, Nat.reduceMod, Int.reduceAdd, Int.reduceSub, Int.reduceMul, Int.reduceLT, Int.reduceLE, Int.reduceEq, Int.reduceNe, Int.reduceNeg, Int.reduceToNat, Int.reducePow, Int.reduceDiv, Int.reduceMod, F_nat_Uint64_b0, he, hh, h32, hle]
    rw [or_step l hd i (by omega) (by omega)]
    refine ih (i + 1) _ (by omega) ?_ ?_ <;> simp only [go_sem, reduceCtorEq, ↓reduceIte, Nat.reduceEqDiff, Nat.reduceAdd, Nat.reduceSub, Nat.reduceMul, Nat.reduceLT, Nat.reduceLeDiff, Nat.reduceBEq, Nat.reduceBNe, Nat.reducePow, Nat.reduceDiv, Nat.reduceMod, Int.reduceAdd, Int.reduceSub, Int.reduceMul, Int.reduceLT, Int.reduceLE, Int.reduceEq, Int.reduceNe, Int.reduceNeg, Int.reduceToNat, Int.reducePow, Int.reduceDiv, Int.reduceMod, he, hh]
theorem Uint64n_fn (hP : X.P = Tryz.prog) (n : Nat) : Fn X 14 [nat (dg 4294967296 n)] (.tu [.sc (.int .u64 (if n < 18446744073709551616 then n else 0 : Nat)), .sc (.bool (decide (n < 18446744073709551616)))]) := by
  refine W_nat_Uint64 hP rfl ?_
  by_cases h : n < 18446744073709551616
  · have hl : (dg 4294967296 n).length ≤ 2 := dg_length (by omega) h
    rw [if_pos h, decide_eq_true h]
    simp (disch := omega) only [sd_t, dec_t, dec_f, i64_in, u32_in, u64_in, i64_quo, u32_quo, u64_quo, rem_in, Int.toNat_of_nonneg, go_sem, reduceCtorEq, ↓reduceIte, Nat.reduceEqDiff, Nat.reduceAdd, Nat.reduceSub, Nat.reduceMul, Nat.reduceLT, Nat.reduceLeDiff, Nat.reduceBEq, Nat.reduceBNe, Nat.reducePow, Nat.reduceDiv, Nat.reduceMod, Int.reduceAdd, Int.reduceSub, Int.reduceMul, Int.reduceLT, Int.reduceLE, Int.reduceEq, Int.reduceNe, Int.reduceNeg, Int.reduceToNat, Int.reducePow, Int.reduceDiv, Int.reduceMod, F_nat_Uint64]
    refine Uint64n_l0 (dg 4294967296 n) hl (dig32 n) ?_ (dg 4294967296 n).length 0 _ (by omega) ?_ ?_
    · intro S he
      rw [vl32] at he
      simp only [En, and_true] at he
      simp (disch := omega) only [sd_t, dec_t, dec_f, i64_in, u32_in, u64_in, i64_quo, u32_quo, u64_quo, rem_in, Int.toNat_of_nonneg, go_sem, reduceCtorEq, ↓reduceIte, Nat.reduceEqDiff, Nat.reduceAdd, Nat.reduceSub, Nat.reduceMul, Nat.reduceLT, Nat.reduceLeDiff, Nat.reduceBEq, Nat.reduceBNe, Nat.reducePow, Nat.reduceDiv, Nat.reduceMod, Int.reduceAdd, Int.reduceSub, Int.reduceMul, Int.reduceLT, Int.reduceLE, Int.reduceEq, Int.reduceNe, Int.reduceNeg, Int.reduceToNat, Int.reducePow, Int.reduceDiv, Int.reduceMod, F_nat_Uint64_k0, R_nat_Uint64, he]
    · simp only [go_sem, reduceCtorEq, ↓reduceIte, Nat.reduceEqDiff, Nat.reduceAdd, Nat.reduceSub, Nat.reduceMul, Nat.reduceLT, Nat.reduceLeDiff, Nat.reduceBEq, Nat.reduceBNe, Nat.reducePow, Nat.reduceDiv, Nat.reduceMod, Int.reduceAdd, Int.reduceSub, Int.reduceMul, Int.reduceLT, Int.reduceLE, Int.reduceEq, Int.reduceNe, Int.reduceNeg, Int.reduceToNat, Int.reducePow, Int.reduceDiv, Int.reduceMod, List.take_zero, vl]
      try rfl
    · simp only [go_sem, reduceCtorEq, ↓reduceIte, Nat.reduceEqDiff, Nat.reduceAdd, Nat.reduceSub, Nat.reduceMul, Nat.reduceLT, Nat.reduceLeDiff, Nat.reduceBEq, Nat.reduceBNe, Nat.reducePow, Nat.reduceDiv, Nat.reduceMod, Int.reduceAdd, Int.reduceSub, Int.reduceMul, Int.reduceLT, Int.reduceLE, Int.reduceEq, Int.reduceNe, Int.reduceNeg, Int.reduceToNat, Int.reducePow, Int.reduceDiv, Int.reduceMod]
  · have hl : 2 < (dg 4294967296 n).length := by
      rcases Nat.lt_or_ge 2 (dg 4294967296 n).length with h1 | h1
      · exact h1
      · exact absurd (Nat.lt_of_lt_of_le (lt_pow_length (B := 4294967296) (by omega) n) (Nat.pow_le_pow_right (by omega) h1)) h
    rw [if_neg h, decide_eq_false h]
    simp (disch := omega) only [sd_t, dec_t, dec_f, i64_in, u32_in, u64_in, i64_quo, u32_quo, u64_quo, rem_in, Int.toNat_of_nonneg, go_sem, reduceCtorEq, ↓reduceIte, Nat.reduceEqDiff, Nat.reduceAdd, Nat.reduceSub, Nat.reduceMul, Nat.reduceLT, Nat.reduceLeDiff, Nat.reduceBEq, Nat.reduceBNe, Nat.reducePow, Nat.reduceDiv, Nat.reduceMod, Int.reduceAdd, Int.reduceSub, Int.reduceMul, Int.reduceLT, Int.reduceLE, Int.reduceEq, Int.reduceNe, Int.reduceNeg, Int.reduceToNat, Int.reducePow, Int.reduceDiv, Int.reduceMod, F_nat_Uint64, R_nat_Uint64]
    try rfl
end Go.Proofs.YtmjkhbjfacfmcaaGreatDoor.VX
end
section
namespace Go.Proofs.YtmjkhbjfacfmcaaGreatDoor.VX
open Go Go.RowKit Go.Proofs.YtmjkhbjfacfmcaaGreatDoor.NM Go.Proofs.YtmjkhbjfacfmcaaGreatDoor.NT Go.Proofs.YtmjkhbjfacfmcaaGreatDoor.RV IntWalk
set_option linter.unusedVariables false
set_option linter.unusedSimpArgs false
variable {X : Ctx}
theorem IsZero_nat (hP : X.P = Tryz.prog) (n : Nat) : Fn X 20 [nat (dg 4294967296 n)] (.sc (.bool (decide (n = 0)))) := by
  rcases Nat.eq_zero_or_pos n with h | h
  · subst h; exact IsZero_0 hP
  · rw [decide_eq_false (by omega)]; exact IsZero_pos hP h
theorem NatBits_fn (hL : LibS X) (n : Int) (a : List Int) (hn : (Lit.int .u64 n).wf = true) (ha : Wf .u32 a) : Fn X 4 [vi .u64 n, u32s a] (.sc (.bool true)) := by
  have ha := dig_of_wf ha
  have s1 := small_fn hL.P a []
  obtain ⟨n, rfl⟩ : ∃ m : Nat, n = m := ⟨n.toNat, by simp [Lit.wf, IntKind.min, IntKind.max, IntKind.signed, IntKind.bits] at hn; omega⟩
  have hn64 : n < 18446744073709551616 := by simp [Lit.wf, IntKind.min, IntKind.max, IntKind.signed, IntKind.bits] at hn; omega
  refine W_waypointlaw01_NatBits hL.P rfl ?_
  by_cases h1 : a.length ≤ 12
  · rw [decide_eq_true ⟨h1, by simp⟩] at s1
    simp (disch := omega) only [sd_t, dec_t, dec_f, i64_in, u32_in, u64_in, i64_quo, u32_quo, u64_quo, rem_in, Int.toNat_of_nonneg, go_sem, reduceCtorEq, ↓reduceIte, Nat.reduceEqDiff, Nat.reduceAdd, Nat.reduceSub, Nat.reduceMul, Nat.reduceLT, Nat.reduceLeDiff, Nat.reduceBEq, Nat.reduceBNe, Nat.reducePow, Nat.reduceDiv, Nat.reduceMod, Int.reduceAdd, Int.reduceSub, Int.reduceMul, Int.reduceLT, Int.reduceLE, Int.reduceEq, Int.reduceNe, Int.reduceNeg, Int.reduceToNat, Int.reducePow, Int.reduceDiv, Int.reduceMod, F_waypointlaw01_NatBits, R_waypointlaw01_NatBits]
    refine cp_of (awake_fn hL) rfl ?_
    simp (disch := omega) only [sd_t, dec_t, dec_f, i64_in, u32_in, u64_in, i64_quo, u32_quo, u64_quo, rem_in, Int.toNat_of_nonneg, go_sem, reduceCtorEq, ↓reduceIte, Nat.reduceEqDiff, Nat.reduceAdd, Nat.reduceSub, Nat.reduceMul, Nat.reduceLT, Nat.reduceLeDiff, Nat.reduceBEq, Nat.reduceBNe, Nat.reducePow, Nat.reduceDiv, Nat.reduceMod, Int.reduceAdd, Int.reduceSub, Int.reduceMul, Int.reduceLT, Int.reduceLE, Int.reduceEq, Int.reduceNe, Int.reduceNeg, Int.reduceToNat, Int.reducePow, Int.reduceDiv, Int.reduceMod]
    refine cp_of (s1) rfl ?_
    simp (disch := omega) only [sd_t, dec_t, dec_f, i64_in, u32_in, u64_in, i64_quo, u32_quo, u64_quo, rem_in, Int.toNat_of_nonneg, go_sem, reduceCtorEq, ↓reduceIte, Nat.reduceEqDiff, Nat.reduceAdd, Nat.reduceSub, Nat.reduceMul, Nat.reduceLT, Nat.reduceLeDiff, Nat.reduceBEq, Nat.reduceBNe, Nat.reducePow, Nat.reduceDiv, Nat.reduceMod, Int.reduceAdd, Int.reduceSub, Int.reduceMul, Int.reduceLT, Int.reduceLE, Int.reduceEq, Int.reduceNe, Int.reduceNeg, Int.reduceToNat, Int.reducePow, Int.reduceDiv, Int.reduceMod]
    refine cp_of (number_fn hL a ha h1) rfl ?_
    simp (disch := omega) only [sd_t, dec_t, dec_f, i64_in, u32_in, u64_in, i64_quo, u32_quo, u64_quo, rem_in, Int.toNat_of_nonneg, go_sem, reduceCtorEq, ↓reduceIte, Nat.reduceEqDiff, Nat.reduceAdd, Nat.reduceSub, Nat.reduceMul, Nat.reduceLT, Nat.reduceLeDiff, Nat.reduceBEq, Nat.reduceBNe, Nat.reducePow, Nat.reduceDiv, Nat.reduceMod, Int.reduceAdd, Int.reduceSub, Int.reduceMul, Int.reduceLT, Int.reduceLE, Int.reduceEq, Int.reduceNe, Int.reduceNeg, Int.reduceToNat, Int.reducePow, Int.reduceDiv, Int.reduceMod]
    have sx := num_sz ha h1
    generalize num a = x at *
    have sn := Sz.small hn64
    have l1 := sx.d32
    have l2 := sn.d32
    have m1 := sx.d6
    have m2 := sn.d6
    have u3 := Uint64n_fn hL.P n
    rw [if_pos hn64, decide_eq_true hn64] at u3
    have bx := nbits_le m1
    have bn := nbits_le m2
    have hz : decide (((dg 1000000 x).length : Int) = 0) = decide (x = 0) := by
      rcases Nat.eq_zero_or_pos x with h | h
      · subst h; rw [dg_zero]; rfl
      · have hp : 0 < (dg 1000000 x).length := by rw [dg_pos (by omega) h, List.length_cons]; omega
        rw [decide_eq_false (by omega), decide_eq_false (by omega)]
    have hz2 : decide ((n : Int) = 0) = decide (n = 0) := by
      rcases Nat.eq_zero_or_pos n with h | h
      · subst h; rfl
      · rw [decide_eq_false (by omega), decide_eq_false (by omega)]
    refine cp_of (Uint64n_fn hL.P x) rfl ?_
    simp (disch := omega) only [sd_t, dec_t, dec_f, i64_in, u32_in, u64_in, i64_quo, u32_quo, u64_quo, rem_in, Int.toNat_of_nonneg, go_sem, reduceCtorEq, ↓reduceIte, Nat.reduceEqDiff, Nat.reduceAdd, Nat.reduceSub, Nat.reduceMul, Nat.reduceLT, Nat.reduceLeDiff, Nat.reduceBEq, Nat.reduceBNe, Nat.reducePow, Nat.reduceDiv, Nat.reduceMod, Int.reduceAdd, Int.reduceSub, Int.reduceMul, Int.reduceLT, Int.reduceLE, Int.reduceEq, Int.reduceNe, Int.reduceNeg, Int.reduceToNat, Int.reducePow, Int.reduceDiv, Int.reduceMod]
    refine cp_of (Uint64_fn hL.P x (by omega)) rfl ?_
    simp (disch := omega) only [sd_t, dec_t, dec_f, i64_in, u32_in, u64_in, i64_quo, u32_quo, u64_quo, rem_in, Int.toNat_of_nonneg, go_sem, reduceCtorEq, ↓reduceIte, Nat.reduceEqDiff, Nat.reduceAdd, Nat.reduceSub, Nat.reduceMul, Nat.reduceLT, Nat.reduceLeDiff, Nat.reduceBEq, Nat.reduceBNe, Nat.reducePow, Nat.reduceDiv, Nat.reduceMod, Int.reduceAdd, Int.reduceSub, Int.reduceMul, Int.reduceLT, Int.reduceLE, Int.reduceEq, Int.reduceNe, Int.reduceNeg, Int.reduceToNat, Int.reducePow, Int.reduceDiv, Int.reduceMod]
    refine cp_of (Of_fn hL.P n hn64) rfl ?_
    simp (disch := omega) only [sd_t, dec_t, dec_f, i64_in, u32_in, u64_in, i64_quo, u32_quo, u64_quo, rem_in, Int.toNat_of_nonneg, go_sem, reduceCtorEq, ↓reduceIte, Nat.reduceEqDiff, Nat.reduceAdd, Nat.reduceSub, Nat.reduceMul, Nat.reduceLT, Nat.reduceLeDiff, Nat.reduceBEq, Nat.reduceBNe, Nat.reducePow, Nat.reduceDiv, Nat.reduceMod, Int.reduceAdd, Int.reduceSub, Int.reduceMul, Int.reduceLT, Int.reduceLE, Int.reduceEq, Int.reduceNe, Int.reduceNeg, Int.reduceToNat, Int.reducePow, Int.reduceDiv, Int.reduceMod]
    refine cp_of (u3) rfl ?_
    simp (disch := omega) only [sd_t, dec_t, dec_f, i64_in, u32_in, u64_in, i64_quo, u32_quo, u64_quo, rem_in, Int.toNat_of_nonneg, go_sem, reduceCtorEq, ↓reduceIte, Nat.reduceEqDiff, Nat.reduceAdd, Nat.reduceSub, Nat.reduceMul, Nat.reduceLT, Nat.reduceLeDiff, Nat.reduceBEq, Nat.reduceBNe, Nat.reducePow, Nat.reduceDiv, Nat.reduceMod, Int.reduceAdd, Int.reduceSub, Int.reduceMul, Int.reduceLT, Int.reduceLE, Int.reduceEq, Int.reduceNe, Int.reduceNeg, Int.reduceToNat, Int.reducePow, Int.reduceDiv, Int.reduceMod]
    refine cp_of (Of_fn hL.P n hn64) rfl ?_
    simp (disch := omega) only [sd_t, dec_t, dec_f, i64_in, u32_in, u64_in, i64_quo, u32_quo, u64_quo, rem_in, Int.toNat_of_nonneg, go_sem, reduceCtorEq, ↓reduceIte, Nat.reduceEqDiff, Nat.reduceAdd, Nat.reduceSub, Nat.reduceMul, Nat.reduceLT, Nat.reduceLeDiff, Nat.reduceBEq, Nat.reduceBNe, Nat.reducePow, Nat.reduceDiv, Nat.reduceMod, Int.reduceAdd, Int.reduceSub, Int.reduceMul, Int.reduceLT, Int.reduceLE, Int.reduceEq, Int.reduceNe, Int.reduceNeg, Int.reduceToNat, Int.reducePow, Int.reduceDiv, Int.reduceMod]
    refine cp_of (Of_fnR hL.P n hn64) rfl ?_
    simp (disch := omega) only [sd_t, dec_t, dec_f, i64_in, u32_in, u64_in, i64_quo, u32_quo, u64_quo, rem_in, Int.toNat_of_nonneg, go_sem, reduceCtorEq, ↓reduceIte, Nat.reduceEqDiff, Nat.reduceAdd, Nat.reduceSub, Nat.reduceMul, Nat.reduceLT, Nat.reduceLeDiff, Nat.reduceBEq, Nat.reduceBNe, Nat.reducePow, Nat.reduceDiv, Nat.reduceMod, Int.reduceAdd, Int.reduceSub, Int.reduceMul, Int.reduceLT, Int.reduceLE, Int.reduceEq, Int.reduceNe, Int.reduceNeg, Int.reduceToNat, Int.reducePow, Int.reduceDiv, Int.reduceMod]
    refine cp_of (is_fn hL sn (by omega)) rfl ?_
    simp (disch := omega) only [sd_t, dec_t, dec_f, i64_in, u32_in, u64_in, i64_quo, u32_quo, u64_quo, rem_in, Int.toNat_of_nonneg, go_sem, reduceCtorEq, ↓reduceIte, Nat.reduceEqDiff, Nat.reduceAdd, Nat.reduceSub, Nat.reduceMul, Nat.reduceLT, Nat.reduceLeDiff, Nat.reduceBEq, Nat.reduceBNe, Nat.reducePow, Nat.reduceDiv, Nat.reduceMod, Int.reduceAdd, Int.reduceSub, Int.reduceMul, Int.reduceLT, Int.reduceLE, Int.reduceEq, Int.reduceNe, Int.reduceNeg, Int.reduceToNat, Int.reducePow, Int.reduceDiv, Int.reduceMod]
    refine cp_of (Of_fn hL.P n hn64) rfl ?_
    simp (disch := omega) only [sd_t, dec_t, dec_f, i64_in, u32_in, u64_in, i64_quo, u32_quo, u64_quo, rem_in, Int.toNat_of_nonneg, go_sem, reduceCtorEq, ↓reduceIte, Nat.reduceEqDiff, Nat.reduceAdd, Nat.reduceSub, Nat.reduceMul, Nat.reduceLT, Nat.reduceLeDiff, Nat.reduceBEq, Nat.reduceBNe, Nat.reducePow, Nat.reduceDiv, Nat.reduceMod, Int.reduceAdd, Int.reduceSub, Int.reduceMul, Int.reduceLT, Int.reduceLE, Int.reduceEq, Int.reduceNe, Int.reduceNeg, Int.reduceToNat, Int.reducePow, Int.reduceDiv, Int.reduceMod]
    refine cp_of (Bits_fn hL.toLibN n (by omega)) rfl ?_
    simp (disch := omega) only [sd_t, dec_t, dec_f, i64_in, u32_in, u64_in, i64_quo, u32_quo, u64_quo, rem_in, Int.toNat_of_nonneg, go_sem, reduceCtorEq, ↓reduceIte, Nat.reduceEqDiff, Nat.reduceAdd, Nat.reduceSub, Nat.reduceMul, Nat.reduceLT, Nat.reduceLeDiff, Nat.reduceBEq, Nat.reduceBNe, Nat.reducePow, Nat.reduceDiv, Nat.reduceMod, Int.reduceAdd, Int.reduceSub, Int.reduceMul, Int.reduceLT, Int.reduceLE, Int.reduceEq, Int.reduceNe, Int.reduceNeg, Int.reduceToNat, Int.reducePow, Int.reduceDiv, Int.reduceMod]
    refine cp_of (Of_fnR hL.P n hn64) rfl ?_
    simp (disch := omega) only [sd_t, dec_t, dec_f, i64_in, u32_in, u64_in, i64_quo, u32_quo, u64_quo, rem_in, Int.toNat_of_nonneg, go_sem, reduceCtorEq, ↓reduceIte, Nat.reduceEqDiff, Nat.reduceAdd, Nat.reduceSub, Nat.reduceMul, Nat.reduceLT, Nat.reduceLeDiff, Nat.reduceBEq, Nat.reduceBNe, Nat.reducePow, Nat.reduceDiv, Nat.reduceMod, Int.reduceAdd, Int.reduceSub, Int.reduceMul, Int.reduceLT, Int.reduceLE, Int.reduceEq, Int.reduceNe, Int.reduceNeg, Int.reduceToNat, Int.reducePow, Int.reduceDiv, Int.reduceMod]
    refine cp_of (Bits_fnR hL.P n (by omega) (by omega) (by omega)) rfl ?_
    simp (disch := omega) only [sd_t, dec_t, dec_f, i64_in, u32_in, u64_in, i64_quo, u32_quo, u64_quo, rem_in, Int.toNat_of_nonneg, go_sem, reduceCtorEq, ↓reduceIte, Nat.reduceEqDiff, Nat.reduceAdd, Nat.reduceSub, Nat.reduceMul, Nat.reduceLT, Nat.reduceLeDiff, Nat.reduceBEq, Nat.reduceBNe, Nat.reducePow, Nat.reduceDiv, Nat.reduceMod, Int.reduceAdd, Int.reduceSub, Int.reduceMul, Int.reduceLT, Int.reduceLE, Int.reduceEq, Int.reduceNe, Int.reduceNeg, Int.reduceToNat, Int.reducePow, Int.reduceDiv, Int.reduceMod]
    refine cp_of (Bits_fn hL.toLibN x (by omega)) rfl ?_
    simp (disch := omega) only [sd_t, dec_t, dec_f, i64_in, u32_in, u64_in, i64_quo, u32_quo, u64_quo, rem_in, Int.toNat_of_nonneg, go_sem, reduceCtorEq, ↓reduceIte, Nat.reduceEqDiff, Nat.reduceAdd, Nat.reduceSub, Nat.reduceMul, Nat.reduceLT, Nat.reduceLeDiff, Nat.reduceBEq, Nat.reduceBNe, Nat.reducePow, Nat.reduceDiv, Nat.reduceMod, Int.reduceAdd, Int.reduceSub, Int.reduceMul, Int.reduceLT, Int.reduceLE, Int.reduceEq, Int.reduceNe, Int.reduceNeg, Int.reduceToNat, Int.reducePow, Int.reduceDiv, Int.reduceMod]
    refine cp_of (Bits_fnR hL.P x (by omega) (by omega) (by omega)) rfl ?_
    simp (disch := omega) only [sd_t, dec_t, dec_f, i64_in, u32_in, u64_in, i64_quo, u32_quo, u64_quo, rem_in, Int.toNat_of_nonneg, go_sem, reduceCtorEq, ↓reduceIte, Nat.reduceEqDiff, Nat.reduceAdd, Nat.reduceSub, Nat.reduceMul, Nat.reduceLT, Nat.reduceLeDiff, Nat.reduceBEq, Nat.reduceBNe, Nat.reducePow, Nat.reduceDiv, Nat.reduceMod, Int.reduceAdd, Int.reduceSub, Int.reduceMul, Int.reduceLT, Int.reduceLE, Int.reduceEq, Int.reduceNe, Int.reduceNeg, Int.reduceToNat, Int.reducePow, Int.reduceDiv, Int.reduceMod]
    refine cp_of (IsZero_nat hL.P x) rfl ?_
    simp (disch := omega) only [sd_t, dec_t, dec_f, i64_in, u32_in, u64_in, i64_quo, u32_quo, u64_quo, rem_in, Int.toNat_of_nonneg, go_sem, reduceCtorEq, ↓reduceIte, Nat.reduceEqDiff, Nat.reduceAdd, Nat.reduceSub, Nat.reduceMul, Nat.reduceLT, Nat.reduceLeDiff, Nat.reduceBEq, Nat.reduceBNe, Nat.reducePow, Nat.reduceDiv, Nat.reduceMod, Int.reduceAdd, Int.reduceSub, Int.reduceMul, Int.reduceLT, Int.reduceLE, Int.reduceEq, Int.reduceNe, Int.reduceNeg, Int.reduceToNat, Int.reducePow, Int.reduceDiv, Int.reduceMod, hz]
    refine cp_of (Of_fn hL.P n hn64) rfl ?_
    simp (disch := omega) only [sd_t, dec_t, dec_f, i64_in, u32_in, u64_in, i64_quo, u32_quo, u64_quo, rem_in, Int.toNat_of_nonneg, go_sem, reduceCtorEq, ↓reduceIte, Nat.reduceEqDiff, Nat.reduceAdd, Nat.reduceSub, Nat.reduceMul, Nat.reduceLT, Nat.reduceLeDiff, Nat.reduceBEq, Nat.reduceBNe, Nat.reducePow, Nat.reduceDiv, Nat.reduceMod, Int.reduceAdd, Int.reduceSub, Int.reduceMul, Int.reduceLT, Int.reduceLE, Int.reduceEq, Int.reduceNe, Int.reduceNeg, Int.reduceToNat, Int.reducePow, Int.reduceDiv, Int.reduceMod]
    refine cp_of (IsZero_nat hL.P n) rfl ?_
    simp (disch := omega) only [sd_t, dec_t, dec_f, i64_in, u32_in, u64_in, i64_quo, u32_quo, u64_quo, rem_in, Int.toNat_of_nonneg, go_sem, reduceCtorEq, ↓reduceIte, Nat.reduceEqDiff, Nat.reduceAdd, Nat.reduceSub, Nat.reduceMul, Nat.reduceLT, Nat.reduceLeDiff, Nat.reduceBEq, Nat.reduceBNe, Nat.reducePow, Nat.reduceDiv, Nat.reduceMod, Int.reduceAdd, Int.reduceSub, Int.reduceMul, Int.reduceLT, Int.reduceLE, Int.reduceEq, Int.reduceNe, Int.reduceNeg, Int.reduceToNat, Int.reducePow, Int.reduceDiv, Int.reduceMod, hz2]
  · rw [decide_eq_false (fun h => h1 h.1)] at s1
    simp (disch := omega) only [sd_t, dec_t, dec_f, i64_in, u32_in, u64_in, i64_quo, u32_quo, u64_quo, rem_in, Int.toNat_of_nonneg, go_sem, reduceCtorEq, ↓reduceIte, Nat.reduceEqDiff, Nat.reduceAdd, Nat.reduceSub, Nat.reduceMul, Nat.reduceLT, Nat.reduceLeDiff, Nat.reduceBEq, Nat.reduceBNe, Nat.reducePow, Nat.reduceDiv, Nat.reduceMod, Int.reduceAdd, Int.reduceSub, Int.reduceMul, Int.reduceLT, Int.reduceLE, Int.reduceEq, Int.reduceNe, Int.reduceNeg, Int.reduceToNat, Int.reducePow, Int.reduceDiv, Int.reduceMod, F_waypointlaw01_NatBits, R_waypointlaw01_NatBits]
    refine cp_of (awake_fn hL) rfl ?_
    simp (disch := omega) only [sd_t, dec_t, dec_f, i64_in, u32_in, u64_in, i64_quo, u32_quo, u64_quo, rem_in, Int.toNat_of_nonneg, go_sem, reduceCtorEq, ↓reduceIte, Nat.reduceEqDiff, Nat.reduceAdd, Nat.reduceSub, Nat.reduceMul, Nat.reduceLT, Nat.reduceLeDiff, Nat.reduceBEq, Nat.reduceBNe, Nat.reducePow, Nat.reduceDiv, Nat.reduceMod, Int.reduceAdd, Int.reduceSub, Int.reduceMul, Int.reduceLT, Int.reduceLE, Int.reduceEq, Int.reduceNe, Int.reduceNeg, Int.reduceToNat, Int.reducePow, Int.reduceDiv, Int.reduceMod]
    refine cp_of (s1) rfl ?_
    simp (disch := omega) only [sd_t, dec_t, dec_f, i64_in, u32_in, u64_in, i64_quo, u32_quo, u64_quo, rem_in, Int.toNat_of_nonneg, go_sem, reduceCtorEq, ↓reduceIte, Nat.reduceEqDiff, Nat.reduceAdd, Nat.reduceSub, Nat.reduceMul, Nat.reduceLT, Nat.reduceLeDiff, Nat.reduceBEq, Nat.reduceBNe, Nat.reducePow, Nat.reduceDiv, Nat.reduceMod, Int.reduceAdd, Int.reduceSub, Int.reduceMul, Int.reduceLT, Int.reduceLE, Int.reduceEq, Int.reduceNe, Int.reduceNeg, Int.reduceToNat, Int.reducePow, Int.reduceDiv, Int.reduceMod]
end Go.Proofs.YtmjkhbjfacfmcaaGreatDoor.VX
end
section
namespace Go.Proofs.YtmjkhbjfacfmcaaGreatDoor.natBits
open Go.ChangeShapes Go.WideShapes Go.ChangeAt Go.RowKit
open Go.ChangeMaps (open_string shut_string)
set_option linter.unusedVariables false
set_option linter.unusedSimpArgs false
theorem own : ownKnob Tryz.prog.godebug = none := by kernel_rfl
theorem laidOut : laidOutB Tryz.prog = true := by kernel_rfl
open VX (IsRow)
theorem gTab : Tryz.prog.globalNamed "internal/strconv.uint64pow10" = some 5 := by kernel_rfl
theorem gTy : (Tryz.prog.globals[5]?).map (·.type) = some 143 := by kernel_rfl
theorem cellsA : Tryz.prog.cellsOf 143 = 20 := by kernel_rfl
theorem cellsE : Tryz.prog.cellsOf 39 = 1 := by kernel_rfl
theorem pwData : (Rows.laid_internal_strconv_uint64pow10 : DataW Unit) = Lib.tabData .u64 Lib.pow10Tab := by simp [Rows.laid_internal_strconv_uint64pow10, Lib.tabData, Lib.pow10Tab, List.range, List.range.loop]
theorem glw {W : World} (h : laidMetH Tryz.prog Rows.natBitsRow.laid W) : GLw W := by
  obtain ⟨g', t', cs, fuel, p, hg', ht', hvar, hd⟩ := Lib.laidMet.reads h (n := "internal/strconv.uint64pow10") (d := Rows.laid_internal_strconv_uint64pow10) (by simp [Rows.natBitsRow])
  obtain rfl := Option.some.inj (gTab.symm.trans hg')
  obtain rfl := Option.some.inj (gTy.symm.trans ht')
  rw [pwData] at hd
  have hcs := Lib.cells_of_tab Tryz.underlying143 Tryz.underlying39 cellsE cellsA hd
  exact ⟨by unfold Lib.TabIs; rw [hvar, ← hcs]⟩
noncomputable def laidWorld (os : Os) : World :=
  let w0 := World.holding Tryz.prog os ⟨#[.cells #[.string ⟨#[118, 97, 108, 117, 101, 32, 111, 117, 116, 32, 111, 102, 32, 114, 97, 110, 103, 101]⟩] 141, .cells #[.string ⟨#[105, 110, 118, 97, 108, 105, 100, 32, 115, 121, 110, 116, 97, 120]⟩] 141], #[], []⟩
  let put (h : Array Obj) (g : Nat) (cs : Array Value) : Array Obj := h.modify g fun
    | .cells _ t frozen => .cells cs t frozen
    | o => o
  let h0 := put w0.heap 7 #[.int .u8 0, .int .u8 1, .int .u8 28, .int .u8 2, .int .u8 29, .int .u8 14, .int .u8 24, .int .u8 3, .int .u8 30, .int .u8 22, .int .u8 20, .int .u8 15, .int .u8 25, .int .u8 17, .int .u8 4, .int .u8 8, .int .u8 31, .int .u8 27, .int .u8 13, .int .u8 23, .int .u8 21, .int .u8 19, .int .u8 16, .int .u8 7, .int .u8 26, .int .u8 12, .int .u8 18, .int .u8 6, .int .u8 11, .int .u8 5, .int .u8 10, .int .u8 9]
  let h1 := put h0 8 #[.int .u8 0, .int .u8 1, .int .u8 56, .int .u8 2, .int .u8 57, .int .u8 49, .int .u8 28, .int .u8 3, .int .u8 61, .int .u8 58, .int .u8 42, .int .u8 50, .int .u8 38, .int .u8 29, .int .u8 17, .int .u8 4, .int .u8 62, .int .u8 47, .int .u8 59, .int .u8 36, .int .u8 45, .int .u8 43, .int .u8 51, .int .u8 22, .int .u8 53, .int .u8 39, .int .u8 33, .int .u8 30, .int .u8 24, .int .u8 18, .int .u8 12, .int .u8 5, .int .u8 63, .int .u8 55, .int .u8 48, .int .u8 27, .int .u8 60, .int .u8 41, .int .u8 37, .int .u8 16, .int .u8 46, .int .u8 35, .int .u8 44, .int .u8 21, .int .u8 52, .int .u8 32, .int .u8 23, .int .u8 11, .int .u8 54, .int .u8 26, .int .u8 40, .int .u8 15, .int .u8 34, .int .u8 20, .int .u8 31, .int .u8 10, .int .u8 25, .int .u8 14, .int .u8 19, .int .u8 9, .int .u8 13, .int .u8 8, .int .u8 7, .int .u8 6]
  let h2 := put h1 5 #[.int .u64 1, .int .u64 10, .int .u64 100, .int .u64 1000, .int .u64 10000, .int .u64 100000, .int .u64 1000000, .int .u64 10000000, .int .u64 100000000, .int .u64 1000000000, .int .u64 10000000000, .int .u64 100000000000, .int .u64 1000000000000, .int .u64 10000000000000, .int .u64 100000000000000, .int .u64 1000000000000000, .int .u64 10000000000000000, .int .u64 100000000000000000, .int .u64 1000000000000000000, .int .u64 10000000000000000000]
  let h3 := put h2 4 #[.int .u8 128, .int .u8 191, .int .u8 160, .int .u8 191, .int .u8 128, .int .u8 159, .int .u8 144, .int .u8 191, .int .u8 128, .int .u8 143, .int .u8 0, .int .u8 0, .int .u8 0, .int .u8 0, .int .u8 0, .int .u8 0, .int .u8 0, .int .u8 0, .int .u8 0, .int .u8 0, .int .u8 0, .int .u8 0, .int .u8 0, .int .u8 0, .int .u8 0, .int .u8 0, .int .u8 0, .int .u8 0, .int .u8 0, .int .u8 0, .int .u8 0, .int .u8 0]
  let h4 := put h3 2 #[.iface 139 (.pointer (some ⟨(World.settled Tryz.prog os).heap.size + 0, 0, none⟩))]
  let h5 := put h4 1 #[.iface 139 (.pointer (some ⟨(World.settled Tryz.prog os).heap.size + 1, 0, none⟩))]
  let h6 := put h5 3 (Lib.firstTab.map fun z => Value.int .u8 z).toArray
  { w0 with heap := h6 }
set_option maxRecDepth 100000 in
theorem laid_met (os : Os) (args : Array Value) : laidMet Tryz.prog Rows.natBitsRow.laid ((laidWorld os).forCall (fun _ _ => 0) ⟨#[], args, []⟩).memory :=
  laidMet_of_run' 8 (by kernel_rfl) (by kernel_rfl)
set_option maxRecDepth 100000 in
theorem witness_row (os : Os) {H : Type} (enc : TypeId × Value → H) :
    (OpenSpec.ofChange Rows.natBitsSpec).preRow enc Tryz.prog Tryz.f4 Rows.natBitsRow.domain false Rows.natBitsRow.laid ((laidWorld os).forCall (fun _ _ => 0) ⟨#[], #[.int .u64 0, .slice none 0 0], []⟩).memory #[.int .u64 0, .slice none 0 0] := by
  have hw : (DataW.whole enc Tryz.prog ((laidWorld os).forCall (fun _ _ => 0) ⟨#[], #[.int .u64 0, .slice none 0 0], []⟩).memory Tryz.f4.params.toList Rows.natBitsSpec.vars false (#[.int .u64 0, .slice none 0 0] : Array Value).toList 8).map (fun x => (x.1, x.2.1)) =
      some ([.lit (.int .u64 0), .nil], []) := by kernel_rfl
  obtain ⟨⟨x1, x2, x3⟩, hx, hx1⟩ := Option.map_eq_some_iff.1 hw
  simp only [Prod.mk.injEq] at hx1
  obtain ⟨rfl, rfl⟩ := hx1
  exact OpenSpec.preRow_of_cond 8 hx (by kernel_rfl) (fun k hk => by cases hk) (by kernel_rfl) (laid_met os _)
set_option maxRecDepth 100000 in
set_option maxHeartbeats 2000000 in
theorem lifted (os : Os) (started : os.Started) (H : Type) (enc : TypeId × Value → H) (F : Stop.Interp) :
    ReturnsInHanded {} Tryz.checked os 4 .any ((OpenSpec.ofChange Rows.natBitsSpec).preRow enc Tryz.prog Tryz.f4 Rows.natBitsRow.domain false Rows.natBitsRow.laid) (((OpenSpec.ofChange Rows.natBitsSpec).at F).post enc Tryz.prog Tryz.f4 false true false false) := by
  refine returnsInHanded_of_row (C := Tryz.checked) (s := OpenSpec.ofChange Rows.natBitsSpec) own started (by kernel_rfl) Tryz.func4
    (witness_row_atRef (enc := enc) (C := Tryz.checked) false (laidWorld os) #[.int .u64 0, .slice none 0 0] rfl (by kernel_rfl) (by kernel_rfl) (by kernel_rfl) (witness_row os enc)) ?_
  intro W base args ds gs before hval0 hW _ _ hsz0 hL _ _
  have hsz : (DataW.weightsEach Tryz.prog (Tryz.f4.params.toList ++ Rows.natBitsSpec.plain.varTypes Tryz.prog) (ds ++ gs)).all (· ≤ reachBytes) = true := hsz0
  have hval : ∀ (j : Nat) t v, Tryz.f4.params[j]? = some t → args[j]? = some v → Value.okWide Tryz.prog W .any base t v := hval0
  have hW' := hW
  obtain ⟨p, q, hA0, hV, rfl, hfz, hnd⟩ := hW
  have hA : DataW.TrodAll enc Tryz.prog W 0 (fun _ => true) true Tryz.f4.params.toList args.toList ds p := hA0
  rw [Tryz.params4] at hA hval hsz
  obtain ⟨v0, vs0, d0, ds0, p0, q0, hargs, rfl, rfl, h0, r0⟩ := trodAll_cons hA
  obtain ⟨v1, vs1, d1, ds1, p1, q1, rfl, rfl, rfl, h1, r1⟩ := trodAll_cons r0
  obtain ⟨rfl, rfl, rfl⟩ := trodAll_nil r1
  obtain rfl : args = #[v0, v1] := by cases args; simp_all
  obtain ⟨rfl, rfl⟩ := trodVars_none hV
  obtain ⟨a0, rfl, rfl, rfl, w0⟩ := open_int Tryz.underlying39 (hval 0 39 v0 rfl rfl) h0
  obtain ⟨a1, len1, cap1, rfl⟩ := okWide_slice Tryz.underlying22 (hval 1 22 v1 rfl rfl)
  have k1 := h1
  have lt1 : ∀ x ∈ p1, x.block < W.heap.size := by obtain ⟨m, hm⟩ := k1; exact DataW.trod_lt m _ _ _ hm
  obtain ⟨z1, w1⟩ : ∃ zs, IsRow .u32 W a1 len1 cap1 zs := by
    obtain ⟨fuel, hf⟩ := h1
    rcases open_ints Tryz.underlying22 Tryz.underlying59 (by kernel_rfl) hf with ⟨hcs, _⟩ | ⟨x, l, c, zs, hcs, _, hl, hm, hz, _, hcell, hwz⟩
    · simp [Value.cells] at hcs
      obtain ⟨rfl, rfl, rfl⟩ := hcs
      exact ⟨[], .inl ⟨rfl, rfl, rfl, rfl⟩⟩
    · simp [Value.cells] at hcs
      obtain ⟨rfl, rfl, rfl⟩ := hcs
      exact ⟨zs, .inr ⟨_, rfl, hl, hm, by simpa using hz, hcell, hwz⟩⟩
  have y1 : len1 * 4 ≤ 140737488351232 := Go.Proofs.YtmjkhbjfacfmcaaGreatDoorW.PrintWords.sized_ints hsz (j := 1) (t := 22) rfl rfl Tryz.underlying22 Tryz.underlying59 (by kernel_rfl) (by kernel_rfl) h1
  clear hA0 hval0 hsz0 hsz
  refine (VX.fn_walk (VX.NatBits_fn (VX.libS (glw hL)) a0 (z1.take len1) w0 (VX.Wf.take (VX.IsRow.wf w1) _)) [(.int .u64 a0), (.slice a1 len1 cap1)] rfl (VX.reps_cons (.sc _) (VX.reps_cons (VX.IsRow.rep w1) VX.reps_nil))).mono fun e W' ⟨⟨v, ok, he, hv⟩, bel⟩ => ?_
  subst he
  cases hv
  exact ⟨_, rfl, _, _, _, [], _, [], hW', trodAll_mk1 (shut_bool Tryz.underlying4 _), (trodAll_cons_mk (shut_int Tryz.underlying39 w0) (trodAll_cons_mk (Below.trod laidOut (by kernel_rfl) (of_decide_eq_true (by kernel_rfl)) k1 bel lt1) trodAll_mk0)), rfl, bel.frame _, fun h => by cases h⟩
theorem said : Rows.NatBitsSaid :=
  OpenClaim.holds_of_cond 4 Tryz.f4 rfl rfl rfl rfl rfl rfl rfl ⟨rfl, rfl, rfl, rfl, rfl⟩ rfl rfl rfl rfl rfl (by kernel_rfl) Tryz.func4 (by kernel_rfl)
    (of_decide_eq_true (by kernel_rfl)) (by unfold Func.isWrapper; first | (rw [if_pos (by decide +kernel)]; kernel_rfl) | (rw [if_neg (by decide +kernel)]; exact ⟨rfl, rfl⟩))
    (fun os started H enc _ F => by rw [OpenClaim.pre_eq_preRow]; exact lifted os started H enc F)
theorem plain (f : FuncId) (fn : Func) (hf : Tryz.pinned.checked.prog.funcNamed "waypoint/waypointlaw01.NatBits" = some f) (hfn : Tryz.pinned.checked.prog.funcs[f]? = some fn) :
    true = Tryz.pinned.checked.prog.looks [] ∧ ∀ (j : Nat) t, fn.params[j]? = some t → Tryz.pinned.checked.prog.wantsStandIn t = false := by
  obtain rfl : f = 4 := Option.some.inj ((show Tryz.prog.funcNamed "waypoint/waypointlaw01.NatBits" = some 4 by kernel_rfl).symm.trans hf) |>.symm
  obtain rfl : fn = Tryz.f4 := (Option.some.inj (Tryz.func4.symm.trans hfn)).symm
  refine ⟨by kernel_rfl, fun j t ht => ?_⟩
  rw [Tryz.params4] at ht
  have hm := Array.mem_of_getElem? ht
  simp only [List.mem_toArray, List.mem_cons, List.mem_nil_iff, or_false] at hm
  rcases hm with rfl | rfl
  · exact (show Tryz.prog.wantsStandIn 39 = false by kernel_rfl)
  · exact (show Tryz.prog.wantsStandIn 22 = false by kernel_rfl)
theorem card : Rows.NatBitsCardSaid :=
  Claim7.holds_tied_plain_at .later [] _ _ _ _ said (fun _ h => by cases h) (by kernel_rfl) (fun _ h => by cases h) natBits_row_tie rfl ⟨rfl, rfl⟩ (by kernel_rfl) rfl plain (by kernel_rfl)
end Go.Proofs.YtmjkhbjfacfmcaaGreatDoor.natBits
namespace Go.Proofs.YtmjkhbjfacfmcaaGreatDoor
theorem natBits_card : Rows.NatBitsCardSaid := natBits.card
end Go.Proofs.YtmjkhbjfacfmcaaGreatDoor
end
