/- Of, Uint64, Bits and IsZero return the specified results for all numbers of 64 bits, and for numbers of up to 12 digits of 32 bits. This is part 4 of the proof: texts joined in order (N8 N9 NA NB NC ND NF Lib2 NE NG NH NI NJ Gc RL). Conditions: each theorem's own. -/
import Derived.Test.YtmjkhbjfacfmcaaGreatDoorYb3
import Derived.Shelf.Strings.Builder1
import Derived.Shelf.Strings.Builder2
import Derived.Shelf.Strings.Trim
import Derived.Shelf.Small.Utf8
import Derived.Shelf.Small.Bits
import Derived.Shelf.Small.Strs
import Derived.Shelf.Strings.BuilderF
import Derived.Shelf.Strings.BuilderK
import Derived.Shelf.Strings.Builder2Cap
import Derived.Shelf.Strconv.Atoi
import Derived.Shelf.Strconv.Itoa0
import Derived.Shelf.Strconv.Itoa1
import Derived.Shelf.LaysM
import Derived.Shelf.Strconv.Itoa2
import Derived.Shelf.Strconv.Itoa3
import Derived.Shelf.Strconv.AtoiErrFast
import Derived.Shelf.Strconv.ParseIntEmpty
import Derived.Shelf.Strconv.AtoiFail
import Derived.Shelf.Strconv.Clone
import Derived.Shelf.Strconv.SyntaxError
import Derived.Shelf.LaysC
import Derived.Shelf.Strconv.ToError
import Derived.Shelf.Strconv.Lower
import Derived.Shelf.Strconv.ParseUint10
import Derived.Shelf.Strconv.ParseUint10Empty
import Derived.Shelf.Strconv.ParseUint10Any
import Derived.Shelf.Strconv.ParseInt10
import Derived.Shelf.Strconv.AtoiLong
import Derived.Shelf.Strconv.AtoiInnerAll
import Derived.Shelf.Strconv.RangeError
import Derived.Shelf.Strconv.ToErrorRange
import Derived.Shelf.Strconv.AtoiAll
import Derived.Shelf.Strconv.ParseUintEmpty
import Derived.Shelf.Strconv.ParseUint10b64
import Derived.Shelf.Strconv.ParseUint10b32
import Derived.Shelf.Strconv.ParseUint10b16
import Derived.Shelf.Strconv.ParseUint10b8
import Derived.Shelf.Strings.Search1
import Derived.Shelf.Strings.Prefix
import Derived.Shelf.Unicode.Decode
import Derived.Shelf.Strings.Runes
import Derived.Shelf.Strings.AsciiSet
import Derived.Shelf.Bits.Mul64
import Derived.Shelf.Strings.Repeat
import Derived.Shelf.Unicode.DecodeSlow
import Derived.Shelf.Unicode.DecodeAny
import Derived.Shelf.Unicode.DecodeLast
import Derived.Shelf.Strings.BuilderCap
import Derived.Test.YtmjkhbjfacfmcaaGreatDoorProg
import Derived.Shelf.Strings.SlTrimAscii
section
namespace Go.Proofs.YtmjkhbjfacfmcaaGreatDoor.VX
open Go Go.RowKit Go.Proofs.YtmjkhbjfacfmcaaGreatDoor.NM Go.Proofs.YtmjkhbjfacfmcaaGreatDoor.NT IntWalk
set_option linter.unusedVariables false
set_option linter.unusedSimpArgs false
variable {X : Ctx}
structure Win (u o : List Int) (j n : Nat) : Prop where
  len : o.length = u.length
  dig : Dig 4294967296 o
  low : o.take j = u.take j
  high : o.drop (j + n + 1) = u.drop (j + n + 1)
theorem Win.set {u o : List Int} {j n : Nat} (h : Win u o j n) (i : Nat) (hi : i ≤ n) {v : Int} (v0 : 0 ≤ v) (v1 : v < 4294967296) : Win u (o.set (i + j) v) j n :=
  ⟨by rw [List.length_set, h.len], h.dig.set _ v0 v1, by rw [List.take_set_of_le (by omega), h.low], by rw [List.drop_set_of_lt (by omega), h.high]⟩
theorem Win.val {u o : List Int} {j n : Nat} (h : Win u o j n) (hj : j ≤ u.length) {X : Int} (he : vl 4294967296 o = vl 4294967296 u + 4294967296 ^ j * X) : vl 4294967296 (o.drop j) = vl 4294967296 (u.drop j) + X := by
  rw [vl_split _ o j (by rw [h.len]; exact hj), vl_split _ u j hj, h.low] at he
  have hp : (0 : Int) < 4294967296 ^ j := Int.pow_pos (by omega)
  refine Int.eq_of_mul_eq_mul_left (Int.ne_of_gt hp) ?_
  rw [Int.mul_add]
  generalize (4294967296 : Int) ^ j = P at *
  omega
theorem alg_red {v0 P Q B q T x c e c' e' d y pm : Int} (hp : q * x + c = pm + B * c') (hd : d = y - pm - e + B * e') : v0 - P * (q * T) + Q * P * (c + e) + Q * P * (d - y) = v0 - P * (q * (T + Q * x)) + Q * B * P * (c' + e') := by
  have : pm = q * x + c - B * c' := by omega
  subst this
  subst hd
  grind
theorem alg_back {w P Q B T x c c' d y : Int} (hd : y + x + c = d + B * c') : w + P * T - Q * P * c + Q * P * (d - y) = w + P * (T + Q * x) - Q * B * P * c' := by
  have : d = y + x + c - B * c' := by omega
  subst this
  grind
theorem win_self (u : List Int) (hu : Dig 4294967296 u) (j n : Nat) : Win u u j n := ⟨rfl, hu, rfl, rfl⟩
theorem Win.lt {u o : List Int} {j n : Nat} (h : Win u o j n) (hu : Dig 4294967296 u) (hj : j + n < u.length) (hW : vl 4294967296 (u.drop j) < 4294967296 ^ (n + 1)) : 0 ≤ vl 4294967296 (o.drop j) ∧ vl 4294967296 (o.drop j) < 4294967296 ^ (n + 1) := by
  refine ⟨vl_nonneg (by omega) (h.dig.drop j), ?_⟩
  have hz := vl_zero_drop (by omega) (hu.drop j) (n + 1) (by rw [List.length_drop]; omega) hW
  have e : vl 4294967296 ((o.drop j).drop (n + 1)) = 0 := by
    rw [List.drop_drop, show j + (n + 1) = j + n + 1 by omega, h.high]
    rw [List.drop_drop, show j + (n + 1) = j + n + 1 by omega] at hz
    exact hz
  rw [vl_split _ (o.drop j) (n + 1) (by rw [List.length_drop, h.len]; omega), e, Int.mul_zero, Int.add_zero]
  have h2 := vl_lt (by omega) ((h.dig.drop j).take (n + 1))
  rw [List.length_take, List.length_drop, h.len, Nat.min_eq_left (by omega)] at h2
  exact h2
theorem alg_last {V0 P Q B q V c e d y e' : Int} (hd : d = y - c - e + B * e') : V0 - P * (q * V) + Q * P * (c + e) + P * Q * (d - y) = V0 + P * (B * Q * e' - q * V) := by
  subst hd
  grind
theorem alg_last2 {V1 P Q B V c d y c' : Int} (hd : y + c = d + B * c') : V1 + P * V - Q * P * c + P * Q * (d - y) = V1 + P * (V - B * Q * c') := by
  have : d = y + c - B * c' := by omega
  subst this
  grind
theorem reduce_l0 (hL : LibN X) (u v : List Int) (j : Nat) (q : Int) (hv : Dig 4294967296 v) (q0 : 0 ≤ q) (qB : q ≤ 4294967296) (hju : j + v.length < u.length) (hul : u.length ≤ 1000000000000) {Q : Ex → St → Prop}
    (hQ : ∀ S o c e, Win u o j v.length → 0 ≤ c → c < 4294967296 → 0 ≤ e → e ≤ 1 → Hold (vl 4294967296 o = vl 4294967296 u - 4294967296 ^ j * (q * vl 4294967296 v) + 4294967296 ^ v.length * 4294967296 ^ j * (c + e)) →
      En S [(0, .os 0 0 u.length), (1, .v (u32s v)), (2, i64 j), (3, u64 q), (9, i64 v.length), (10, u64 c), (11, u32 e)] → Hp S [(0, .p 59 1 (nums .u32 o))] → Q (.x 0) S) :
    ∀ (m i : Nat) (o : List Int) (c e : Int) (S : St), m + i = v.length → Win u o j v.length → 0 ≤ c → c < 4294967296 → 0 ≤ e → e ≤ 1 →
    Hold (vl 4294967296 o = vl 4294967296 u - 4294967296 ^ j * (q * vl 4294967296 (v.take i)) + 4294967296 ^ i * 4294967296 ^ j * (c + e)) →
    En S [(0, .os 0 0 u.length), (1, .v (u32s v)), (2, i64 j), (3, u64 q), (9, i64 v.length), (10, u64 c), (11, u32 e), (20, .v (u32s v)), (21, i64 v.length), (22, i64 i)] → Hp S [(0, .p 59 1 (nums .u32 o))] → wpC X F_nat_reduce_l0 Q S := by
  intro m
  induction m with
  | zero =>
    intro i o c e S hi hw c0 c1 e0 e1 hv' he hh
    have hi' : i = v.length := by omega
    subst hi'
    rw [vl_take_all _ _ _ (Nat.le_refl _)] at hv'
    simp only [En, Hp, and_true] at he hh
    refine wpC_round rfl ?_
    simp (disch := omega) only [sd_t, dec_t, dec_f, i64_in, u32_in, u64_in, i64_quo, u32_quo, u64_quo, rem_in, Int.toNat_of_nonneg, go_sem, reduceCtorEq, ↓reduceIte, Nat.reduceEqDiff, Nat.reduceAdd, Nat.reduceSub, Nat.reduceMul, Nat.reduceLT, Nat.reduceLeDiff, Nat.reduceBEq, Nat.reduceBNe, Nat.reducePow, Nat.reduceDiv, Nat.reduceMod, Int.reduceAdd, Int.reduceSub, Int.reduceMul, Int.reduceLT, Int.reduceLE, Int.reduceEq, Int.reduceNe, Int.reduceNeg, Int.reduceToNat, Int.reducePow, Int.reduceDiv, Int.reduceMod, F_nat_reduce_b0, he, hh]
    refine hQ _ o c e hw c0 c1 e0 e1 hv' ?_ ?_ <;> simp only [go_sem, reduceCtorEq, ↓reduceIte, Nat.reduceEqDiff, Nat.reduceAdd, Nat.reduceSub, Nat.reduceMul, Nat.reduceLT, Nat.reduceLeDiff, Nat.reduceBEq, Nat.reduceBNe, Nat.reducePow, Nat.reduceDiv, Nat.reduceMod, Int.reduceAdd, Int.reduceSub, Int.reduceMul, Int.reduceLT, Int.reduceLE, Int.reduceEq, Int.reduceNe, Int.reduceNeg, Int.reduceToNat, Int.reducePow, Int.reduceDiv, Int.reduceMod, he, hh]
  | succ m ih =>
    intro i o c e S hi hw c0 c1 e0 e1 hv' he hh
    have hx := hv.rd (by omega) i
    have hy := hw.dig.rd (by omega) (i + j)
    have hol := hw.len
    rw [Int.natCast_add] at hy
    obtain ⟨x, hxe⟩ : ∃ x, rd v (i : Int) = x := ⟨_, rfl⟩
    obtain ⟨y, hye⟩ : ∃ y, rd o ((i : Int) + (j : Int)) = y := ⟨_, rfl⟩
    rw [hxe] at hx
    rw [hye] at hy
    have p0 : 0 ≤ q * x := Int.mul_nonneg q0 hx.1
    have p1 : q * x ≤ 4294967296 * 4294967295 := Int.mul_le_mul qB (by omega) hx.1 (by omega)
    obtain ⟨p, hp⟩ : ∃ p, q * x = p := ⟨_, rfl⟩
    rw [hp] at p0 p1
    obtain ⟨s, hs⟩ : ∃ s, p + c = s := ⟨_, rfl⟩
    have s0 : 0 ≤ s := by omega
    have s1 : s < 18446744073709551616 := by omega
    simp only [En, Hp, and_true] at he hh
    refine wpC_round rfl ?_
    simp (disch := omega) only [sd_t, dec_t, dec_f, i64_in, u32_in, u64_in, i64_quo, u32_quo, u64_quo, rem_in, Int.toNat_of_nonneg, go_sem, reduceCtorEq, ↓reduceIte, Nat.reduceEqDiff, Nat.reduceAdd, Nat.reduceSub, Nat.reduceMul, Nat.reduceLT, Nat.reduceLeDiff, Nat.reduceBEq, Nat.reduceBNe, Nat.reducePow, Nat.reduceDiv, Nat.reduceMod, Int.reduceAdd, Int.reduceSub, Int.reduceMul, Int.reduceLT, Int.reduceLE, Int.reduceEq, Int.reduceNe, Int.reduceNeg, Int.reduceToNat, Int.reducePow, Int.reduceDiv, Int.reduceMod, F_nat_reduce_b0, he, hh, hxe, hye, hp, hs, IntKind.wrap_u32, hol]
    refine cp_of (hL.sub32 y (s % 4294967296) e ⟨hy.1, hy.2, by omega, by omega, e0, e1⟩) rfl ?_
    simp (disch := omega) only [sd_t, dec_t, dec_f, i64_in, u32_in, u64_in, i64_quo, u32_quo, u64_quo, rem_in, Int.toNat_of_nonneg, go_sem, reduceCtorEq, ↓reduceIte, Nat.reduceEqDiff, Nat.reduceAdd, Nat.reduceSub, Nat.reduceMul, Nat.reduceLT, Nat.reduceLeDiff, Nat.reduceBEq, Nat.reduceBNe, Nat.reducePow, Nat.reduceDiv, Nat.reduceMod, Int.reduceAdd, Int.reduceSub, Int.reduceMul, Int.reduceLT, Int.reduceLE, Int.reduceEq, Int.reduceNe, Int.reduceNeg, Int.reduceToNat, Int.reducePow, Int.reduceDiv, Int.reduceMod, he, hh, hol]
    obtain ⟨e', he'⟩ : ∃ e', (if y < s % 4294967296 + e then (1 : Int) else 0) = e' := ⟨_, rfl⟩
    have hd : (0 ≤ e' ∧ e' ≤ 1) ∧ (y - s % 4294967296 - e) % 4294967296 = y - s % 4294967296 - e + 4294967296 * e' := by
      rw [← he']
      split <;> omega
    rw [he']
    refine ih (i + 1) (o.set (i + j) ((y - s % 4294967296 - e) % 4294967296)) (s / 4294967296) e' _ (by omega) (hw.set i (by omega) (by omega) (by omega)) (by omega) (by omega) hd.1.1 hd.1.2 ?_ ?_ ?_
    · unfold Hold at hv' ⊢
      rw [vl_set _ _ _ _ (by rw [hol]; omega), hv', vl_take_succ, Int.pow_succ, Int.pow_add, Int.natCast_add, hye, hxe]
      exact alg_red (pm := s % 4294967296) (by rw [hp, hs]; omega) hd.2
    · simp only [go_sem, reduceCtorEq, ↓reduceIte, Nat.reduceEqDiff, Nat.reduceAdd, Nat.reduceSub, Nat.reduceMul, Nat.reduceLT, Nat.reduceLeDiff, Nat.reduceBEq, Nat.reduceBNe, Nat.reducePow, Nat.reduceDiv, Nat.reduceMod, Int.reduceAdd, Int.reduceSub, Int.reduceMul, Int.reduceLT, Int.reduceLE, Int.reduceEq, Int.reduceNe, Int.reduceNeg, Int.reduceToNat, Int.reducePow, Int.reduceDiv, Int.reduceMod, he, hh]
    · simp only [go_sem, reduceCtorEq, ↓reduceIte, Nat.reduceEqDiff, Nat.reduceAdd, Nat.reduceSub, Nat.reduceMul, Nat.reduceLT, Nat.reduceLeDiff, Nat.reduceBEq, Nat.reduceBNe, Nat.reducePow, Nat.reduceDiv, Nat.reduceMod, Int.reduceAdd, Int.reduceSub, Int.reduceMul, Int.reduceLT, Int.reduceLE, Int.reduceEq, Int.reduceNe, Int.reduceNeg, Int.reduceToNat, Int.reducePow, Int.reduceDiv, Int.reduceMod, he, hh]
theorem reduce_l1 (hP : X.P = Tryz.prog) (u u1 v : List Int) (j : Nat) (q n : Int) (hv : Dig 4294967296 v) (hju : j + v.length < u.length) (hul : u.length ≤ 1000000000000) {Q : Ex → St → Prop}
    (hQ : ∀ S o c, Win u o j v.length → 0 ≤ c → c ≤ 1 → Hold (vl 4294967296 o = vl 4294967296 u1 + 4294967296 ^ j * vl 4294967296 v - 4294967296 ^ v.length * 4294967296 ^ j * c) →
      En S [(0, .os 0 0 u.length), (2, i64 j), (3, u64 q), (9, i64 n), (15, u32 c)] → Hp S [(0, .p 59 1 (nums .u32 o))] → Q (.x 2) S) :
    ∀ (m i : Nat) (o : List Int) (c : Int) (S : St), m + i = v.length → Win u o j v.length → 0 ≤ c → c ≤ 1 →
    Hold (vl 4294967296 o = vl 4294967296 u1 + 4294967296 ^ j * vl 4294967296 (v.take i) - 4294967296 ^ i * 4294967296 ^ j * c) →
    En S [(0, .os 0 0 u.length), (2, i64 j), (3, u64 q), (9, i64 n), (15, u32 c), (76, .v (u32s v)), (77, i64 v.length), (78, i64 i)] → Hp S [(0, .p 59 1 (nums .u32 o))] → wpC X F_nat_reduce_l1 Q S := by
  intro m
  induction m with
  | zero =>
    intro i o c S hi hw c0 c1 hv' he hh
    have hi' : i = v.length := by omega
    subst hi'
    rw [vl_take_all _ _ _ (Nat.le_refl _)] at hv'
    simp only [En, Hp, and_true] at he hh
    refine wpC_round rfl ?_
    simp (disch := omega) only [sd_t, dec_t, dec_f, i64_in, u32_in, u64_in, i64_quo, u32_quo, u64_quo, rem_in, Int.toNat_of_nonneg, go_sem, reduceCtorEq, ↓reduceIte, Nat.reduceEqDiff, Nat.reduceAdd, Nat.reduceSub, Nat.reduceMul, Nat.reduceLT, Nat.reduceLeDiff, Nat.reduceBEq, Nat.reduceBNe, Nat.reducePow, Nat.reduceDiv, Nat.reduceMod, Int.reduceAdd, Int.reduceSub, Int.reduceMul, Int.reduceLT, Int.reduceLE, Int.reduceEq, Int.reduceNe, Int.reduceNeg, Int.reduceToNat, Int.reducePow, Int.reduceDiv, Int.reduceMod, F_nat_reduce_b1, he, hh]
    refine hQ _ o c hw c0 c1 hv' ?_ ?_ <;> simp only [go_sem, reduceCtorEq, ↓reduceIte, Nat.reduceEqDiff, Nat.reduceAdd, Nat.reduceSub, Nat.reduceMul, Nat.reduceLT, Nat.reduceLeDiff, Nat.reduceBEq, Nat.reduceBNe, Nat.reducePow, Nat.reduceDiv, Nat.reduceMod, Int.reduceAdd, Int.reduceSub, Int.reduceMul, Int.reduceLT, Int.reduceLE, Int.reduceEq, Int.reduceNe, Int.reduceNeg, Int.reduceToNat, Int.reducePow, Int.reduceDiv, Int.reduceMod, he, hh]
  | succ m ih =>
    intro i o c S hi hw c0 c1 hv' he hh
    have hx := hv.rd (by omega) i
    have hy := hw.dig.rd (by omega) (i + j)
    have hol := hw.len
    rw [Int.natCast_add] at hy
    obtain ⟨x, hxe⟩ : ∃ x, rd v (i : Int) = x := ⟨_, rfl⟩
    obtain ⟨y, hye⟩ : ∃ y, rd o ((i : Int) + (j : Int)) = y := ⟨_, rfl⟩
    rw [hxe] at hx
    rw [hye] at hy
    simp only [En, Hp, and_true] at he hh
    refine wpC_round rfl ?_
    simp (disch := omega) only [sd_t, dec_t, dec_f, i64_in, u32_in, u64_in, i64_quo, u32_quo, u64_quo, rem_in, Int.toNat_of_nonneg, go_sem, reduceCtorEq, ↓reduceIte, Nat.reduceEqDiff, Nat.reduceAdd, Nat.reduceSub, Nat.reduceMul, Nat.reduceLT, Nat.reduceLeDiff, Nat.reduceBEq, Nat.reduceBNe, Nat.reducePow, Nat.reduceDiv, Nat.reduceMod, Int.reduceAdd, Int.reduceSub, Int.reduceMul, Int.reduceLT, Int.reduceLE, Int.reduceEq, Int.reduceNe, Int.reduceNeg, Int.reduceToNat, Int.reducePow, Int.reduceDiv, Int.reduceMod, F_nat_reduce_b1, he, hh, hxe, hye, hol]
    refine cp_of (Add32_fn hP y x c hy hx ⟨c0, c1⟩) rfl ?_
    simp (disch := omega) only [sd_t, dec_t, dec_f, i64_in, u32_in, u64_in, i64_quo, u32_quo, u64_quo, rem_in, Int.toNat_of_nonneg, go_sem, reduceCtorEq, ↓reduceIte, Nat.reduceEqDiff, Nat.reduceAdd, Nat.reduceSub, Nat.reduceMul, Nat.reduceLT, Nat.reduceLeDiff, Nat.reduceBEq, Nat.reduceBNe, Nat.reducePow, Nat.reduceDiv, Nat.reduceMod, Int.reduceAdd, Int.reduceSub, Int.reduceMul, Int.reduceLT, Int.reduceLE, Int.reduceEq, Int.reduceNe, Int.reduceNeg, Int.reduceToNat, Int.reducePow, Int.reduceDiv, Int.reduceMod, he, hh, hol]
    refine ih (i + 1) (o.set (i + j) ((y + x + c) % 4294967296)) ((y + x + c) / 4294967296) _ (by omega) (hw.set i (by omega) (by omega) (by omega)) (by omega) (by omega) ?_ ?_ ?_
    · unfold Hold at hv' ⊢
      rw [vl_set _ _ _ _ (by rw [hol]; omega), hv', vl_take_succ, Int.pow_succ, Int.pow_add, Int.natCast_add, hye, hxe]
      exact alg_back (by omega)
    · simp only [go_sem, reduceCtorEq, ↓reduceIte, Nat.reduceEqDiff, Nat.reduceAdd, Nat.reduceSub, Nat.reduceMul, Nat.reduceLT, Nat.reduceLeDiff, Nat.reduceBEq, Nat.reduceBNe, Nat.reducePow, Nat.reduceDiv, Nat.reduceMod, Int.reduceAdd, Int.reduceSub, Int.reduceMul, Int.reduceLT, Int.reduceLE, Int.reduceEq, Int.reduceNe, Int.reduceNeg, Int.reduceToNat, Int.reducePow, Int.reduceDiv, Int.reduceMod, he, hh]
    · simp only [go_sem, reduceCtorEq, ↓reduceIte, Nat.reduceEqDiff, Nat.reduceAdd, Nat.reduceSub, Nat.reduceMul, Nat.reduceLT, Nat.reduceLeDiff, Nat.reduceBEq, Nat.reduceBNe, Nat.reducePow, Nat.reduceDiv, Nat.reduceMod, Int.reduceAdd, Int.reduceSub, Int.reduceMul, Int.reduceLT, Int.reduceLE, Int.reduceEq, Int.reduceNe, Int.reduceNeg, Int.reduceToNat, Int.reducePow, Int.reduceDiv, Int.reduceMod, he, hh]
end Go.Proofs.YtmjkhbjfacfmcaaGreatDoor.VX
end
section
namespace Go.Proofs.YtmjkhbjfacfmcaaGreatDoor.VX
open Go Go.RowKit Go.Proofs.YtmjkhbjfacfmcaaGreatDoor.NM Go.Proofs.YtmjkhbjfacfmcaaGreatDoor.NT IntWalk
set_option linter.unusedVariables false
set_option linter.unusedSimpArgs false
variable {X : Ctx}
theorem reduce_ctr (hL : LibN X) (u v : List Int) (j : Nat) (q : Int) (hu : Dig 4294967296 u) (hv : Dig 4294967296 v) (hju : j + v.length < u.length) (hul : u.length ≤ 1000000000000) (q0 : 0 ≤ q) (qB : q ≤ 4294967296)
    (hV : 0 < vl 4294967296 v) (hW : Hold (vl 4294967296 (u.drop j) < 4294967296 * vl 4294967296 v)) (hq1 : vl 4294967296 (u.drop j) / vl 4294967296 v ≤ q) (hq2 : q ≤ vl 4294967296 (u.drop j) / vl 4294967296 v + 1) :
    Ctr X 36 (upd noH 0 (some (.p 59 1 (nums .u32 u)))) [.os 0 0 u.length, .v (u32s v), i64 j, u64 q] fun H r => ∃ u', Win u u' j v.length ∧ vl 4294967296 (u'.drop j) = vl 4294967296 (u.drop j) % vl 4294967296 v ∧ H = upd noH 0 (some (.p 59 1 (nums .u32 u'))) ∧ r = u32 (vl 4294967296 (u.drop j) / vl 4294967296 v) := by
  have hWl : vl 4294967296 (u.drop j) < 4294967296 ^ (v.length + 1) := by
    have hVlt := vl_lt (B := 4294967296) (by omega) hv
    unfold Hold at hW
    rw [Int.pow_succ]
    generalize (4294967296 : Int) ^ v.length = Q at *
    generalize vl 4294967296 v = X at *
    generalize vl 4294967296 (List.drop j u) = Y at *
    omega
  have hQB : vl 4294967296 (u.drop j) / vl 4294967296 v < 4294967296 := Int.ediv_lt_of_lt_mul hV hW
  have hQ0 : 0 ≤ vl 4294967296 (u.drop j) / vl 4294967296 v := Int.ediv_nonneg (vl_nonneg (by omega) (hu.drop j)) (Int.le_of_lt hV)
  have hdm := Int.mul_ediv_add_emod (vl 4294967296 (u.drop j)) (vl 4294967296 v)
  have hm0 := Int.emod_nonneg (vl 4294967296 (u.drop j)) (Int.ne_of_gt hV)
  have hm1 := Int.emod_lt_of_pos (vl 4294967296 (u.drop j)) hV
  have hVlt := vl_lt (B := 4294967296) (by omega) hv
  refine W_nat_reduce hL.P rfl ?_
  simp (disch := omega) only [sd_t, dec_t, dec_f, i64_in, u32_in, u64_in, i64_quo, u32_quo, u64_quo, rem_in, Int.toNat_of_nonneg, go_sem, reduceCtorEq, ↓reduceIte, Nat.reduceEqDiff, Nat.reduceAdd, Nat.reduceSub, Nat.reduceMul, Nat.reduceLT, Nat.reduceLeDiff, Nat.reduceBEq, Nat.reduceBNe, Nat.reducePow, Nat.reduceDiv, Nat.reduceMod, Int.reduceAdd, Int.reduceSub, Int.reduceMul, Int.reduceLT, Int.reduceLE, Int.reduceEq, Int.reduceNe, Int.reduceNeg, Int.reduceToNat, Int.reducePow, Int.reduceDiv, Int.reduceMod, F_nat_reduce, R_nat_reduce]
  refine reduce_l0 hL u v j q hv q0 qB hju hul ?_ v.length 0 u 0 0 _ (by omega) (win_self u hu _ _) (by omega) (by omega) (by omega) (by omega) (by unfold Hold; simp [vl]) ?_ ?_
  · intro S o c e w1 c0 c1 e0 e1 w6 he hh
    simp only [En, Hp, and_true] at he hh
    have hy := w1.dig.rd (by omega) (j + v.length)
    have hol := w1.len
    rw [Int.natCast_add] at hy
    obtain ⟨y, hye⟩ : ∃ y, rd o ((j : Int) + (v.length : Int)) = y := ⟨_, rfl⟩
    rw [hye] at hy
    simp (disch := omega) only [sd_t, dec_t, dec_f, i64_in, u32_in, u64_in, i64_quo, u32_quo, u64_quo, rem_in, Int.toNat_of_nonneg, go_sem, reduceCtorEq, ↓reduceIte, Nat.reduceEqDiff, Nat.reduceAdd, Nat.reduceSub, Nat.reduceMul, Nat.reduceLT, Nat.reduceLeDiff, Nat.reduceBEq, Nat.reduceBNe, Nat.reducePow, Nat.reduceDiv, Nat.reduceMod, Int.reduceAdd, Int.reduceSub, Int.reduceMul, Int.reduceLT, Int.reduceLE, Int.reduceEq, Int.reduceNe, Int.reduceNeg, Int.reduceToNat, Int.reducePow, Int.reduceDiv, Int.reduceMod, F_nat_reduce_k1, he, hh, hye, hol]
    refine cp_of (hL.sub32 y c e ⟨hy.1, hy.2, c0, c1, e0, e1⟩) rfl ?_
    obtain ⟨e', he'⟩ : ∃ e', (if y < c + e then (1 : Int) else 0) = e' := ⟨_, rfl⟩
    obtain ⟨d, hde⟩ : ∃ d, (y - c - e) % 4294967296 = d := ⟨_, rfl⟩
    have hd : (0 ≤ e' ∧ e' ≤ 1) ∧ d = y - c - e + 4294967296 * e' := by
      rw [← he', ← hde]
      split <;> omega
    rw [he', hde]
    have w2 : Win u (o.set (j + v.length) d) j v.length := by
      have := w1.set v.length (Nat.le_refl _) (show 0 ≤ d by omega) (show d < 4294967296 by omega)
      rwa [Nat.add_comm] at this
    have hval : vl 4294967296 ((o.set (j + v.length) d).drop j) = vl 4294967296 (u.drop j) + (4294967296 * 4294967296 ^ v.length * e' - q * vl 4294967296 v) := by
      refine w2.val (by omega) ?_
      unfold Hold at w6
      rw [vl_set _ _ _ _ (by rw [hol]; omega), w6, Int.pow_add, Int.natCast_add, hye]
      exact alg_last hd.2
    have hlt2 := w2.lt hu hju hWl
    rw [Int.pow_succ, Int.mul_comm _ (4294967296 : Int)] at hlt2
    rcases (show q = vl 4294967296 (u.drop j) / vl 4294967296 v ∨ q = vl 4294967296 (u.drop j) / vl 4294967296 v + 1 by omega) with hqq | hqq
    · have he0 : e' = 0 := by
        rcases (show e' = 0 ∨ e' = 1 by omega) with h | h
        · exact h
        · exfalso
          subst h
          rw [hqq, Int.mul_comm (vl 4294967296 (u.drop j) / vl 4294967296 v)] at hval
          generalize vl 4294967296 v * (vl 4294967296 (u.drop j) / vl 4294967296 v) = X at *
          generalize 4294967296 * (4294967296 : Int) ^ v.length = Y at *
          omega
      subst he0
      have hqlt : q < 4294967296 := by omega
      have hres : vl 4294967296 ((o.set (j + v.length) d).drop j) = vl 4294967296 (u.drop j) % vl 4294967296 v := by
        rw [hval, hqq, Int.mul_comm (vl 4294967296 (u.drop j) / vl 4294967296 v)]
        generalize vl 4294967296 v * (vl 4294967296 (u.drop j) / vl 4294967296 v) = X at *
        omega
      clear hlt2 hdm hm0 hm1 hVlt hWl hW w6 hval
      simp (disch := omega) only [sd_t, dec_t, dec_f, i64_in, u32_in, u64_in, i64_quo, u32_quo, u64_quo, rem_in, Int.toNat_of_nonneg, go_sem, reduceCtorEq, ↓reduceIte, Nat.reduceEqDiff, Nat.reduceAdd, Nat.reduceSub, Nat.reduceMul, Nat.reduceLT, Nat.reduceLeDiff, Nat.reduceBEq, Nat.reduceBNe, Nat.reducePow, Nat.reduceDiv, Nat.reduceMod, Int.reduceAdd, Int.reduceSub, Int.reduceMul, Int.reduceLT, Int.reduceLE, Int.reduceEq, Int.reduceNe, Int.reduceNeg, Int.reduceToNat, Int.reducePow, Int.reduceDiv, Int.reduceMod, he, hh, hol]
      refine ⟨o.set (j + v.length) d, w2, hres, ?_, by rw [hqq]⟩
      show upd noH 0 (upd S.heap 0 _ 0) = _
      rw [upd_same]
    · have he1 : e' = 1 := by
        rcases (show e' = 0 ∨ e' = 1 by omega) with h | h
        · exfalso
          subst h
          rw [hqq, Int.add_mul, Int.mul_comm (vl 4294967296 (u.drop j) / vl 4294967296 v)] at hval
          generalize vl 4294967296 v * (vl 4294967296 (u.drop j) / vl 4294967296 v) = X at *
          omega
        · exact h
      subst he1
      simp (disch := omega) only [sd_t, dec_t, dec_f, i64_in, u32_in, u64_in, i64_quo, u32_quo, u64_quo, rem_in, Int.toNat_of_nonneg, go_sem, reduceCtorEq, ↓reduceIte, Nat.reduceEqDiff, Nat.reduceAdd, Nat.reduceSub, Nat.reduceMul, Nat.reduceLT, Nat.reduceLeDiff, Nat.reduceBEq, Nat.reduceBNe, Nat.reducePow, Nat.reduceDiv, Nat.reduceMod, Int.reduceAdd, Int.reduceSub, Int.reduceMul, Int.reduceLT, Int.reduceLE, Int.reduceEq, Int.reduceNe, Int.reduceNeg, Int.reduceToNat, Int.reducePow, Int.reduceDiv, Int.reduceMod, he, hh, hol]
      refine reduce_l1 hL.P u (o.set (j + v.length) d) v j q v.length hv hju hul ?_ v.length 0 (o.set (j + v.length) d) 0 _ (by omega) w2 (by omega) (by omega) (by unfold Hold; simp [vl]) ?_ ?_
      · intro S2 o2 c2 x1 x2 x3 x6 hea hha
        simp only [En, Hp, and_true] at hea hha
        have hy2 := x1.dig.rd (by omega) (j + v.length)
        have hol2 := x1.len
        rw [Int.natCast_add] at hy2
        obtain ⟨y2, hye2⟩ : ∃ y2, rd o2 ((j : Int) + (v.length : Int)) = y2 := ⟨_, rfl⟩
        rw [hye2] at hy2
        obtain ⟨s, hs⟩ : ∃ s, y2 + c2 = s := ⟨_, rfl⟩
        have w3 : Win u (o2.set (j + v.length) (s % 4294967296)) j v.length := by
          have := x1.set v.length (Nat.le_refl _) (show 0 ≤ s % 4294967296 by omega) (show s % 4294967296 < 4294967296 by omega)
          rwa [Nat.add_comm] at this
        have hval2 : vl 4294967296 ((o2.set (j + v.length) (s % 4294967296)).drop j) = vl 4294967296 (u.drop j) + (4294967296 * 4294967296 ^ v.length * 1 - q * vl 4294967296 v + (vl 4294967296 v - 4294967296 * 4294967296 ^ v.length * (s / 4294967296))) := by
          refine w3.val (by omega) ?_
          unfold Hold at x6 w6
          rw [vl_set _ _ _ _ (by rw [hol2]; omega), x6, vl_set _ _ _ _ (by rw [hol]; omega), w6, Int.pow_add, Int.natCast_add, hye, hye2]
          have a1 := alg_last (V0 := vl 4294967296 u) (P := 4294967296 ^ j) (Q := 4294967296 ^ v.length) (q := q) (V := vl 4294967296 v) hd.2
          have a2 := alg_last2 (V1 := vl 4294967296 u + 4294967296 ^ j * (4294967296 * 4294967296 ^ v.length * 1 - q * vl 4294967296 v)) (P := 4294967296 ^ j) (Q := 4294967296 ^ v.length) (B := 4294967296) (V := vl 4294967296 v) (c := c2) (d := s % 4294967296) (y := y2) (c' := s / 4294967296) (by rw [hs]; omega)
          rw [a1, a2, Int.mul_add (4294967296 ^ j) (4294967296 * 4294967296 ^ v.length * 1 - q * vl 4294967296 v), Int.add_assoc]
        have hlt3 := w3.lt hu hju hWl
        rw [Int.pow_succ, Int.mul_comm _ (4294967296 : Int)] at hlt3
        have hq' : q - 1 = vl 4294967296 (u.drop j) / vl 4294967296 v := by omega
        have hres : vl 4294967296 ((o2.set (j + v.length) (s % 4294967296)).drop j) = vl 4294967296 (u.drop j) % vl 4294967296 v := by
          have hs01 : s / 4294967296 = 0 ∨ s / 4294967296 = 1 := by omega
          rw [hval2] at hlt3 ⊢
          rw [hqq, Int.add_mul, Int.mul_comm (vl 4294967296 (u.drop j) / vl 4294967296 v)] at hlt3 ⊢
          generalize vl 4294967296 v * (vl 4294967296 (u.drop j) / vl 4294967296 v) = X at *
          generalize 4294967296 * (4294967296 : Int) ^ v.length = Y at *
          clear hval hval2
          rcases hs01 with h | h
          · rw [h] at hlt3 ⊢
            exfalso
            omega
          · rw [h]; omega
        have hqm0 : 0 ≤ q - 1 := by omega
        have hqm1 : q - 1 < 4294967296 := by omega
        clear hlt2 hlt3 hdm hm0 hm1 hVlt hWl hW w6 x6 hval hval2
        simp (disch := omega) only [sd_t, dec_t, dec_f, i64_in, u32_in, u64_in, i64_quo, u32_quo, u64_quo, rem_in, Int.toNat_of_nonneg, go_sem, reduceCtorEq, ↓reduceIte, Nat.reduceEqDiff, Nat.reduceAdd, Nat.reduceSub, Nat.reduceMul, Nat.reduceLT, Nat.reduceLeDiff, Nat.reduceBEq, Nat.reduceBNe, Nat.reducePow, Nat.reduceDiv, Nat.reduceMod, Int.reduceAdd, Int.reduceSub, Int.reduceMul, Int.reduceLT, Int.reduceLE, Int.reduceEq, Int.reduceNe, Int.reduceNeg, Int.reduceToNat, Int.reducePow, Int.reduceDiv, Int.reduceMod, F_nat_reduce_k0, hea, hha, hye2, hol2, hs, IntKind.wrap_u32]
        refine ⟨o2.set (j + v.length) (s % 4294967296), w3, hres, ?_, ?_⟩
        · show upd noH 0 (upd S2.heap 0 _ 0) = _
          rw [upd_same]
        · rw [← hq']
      · simp only [go_sem, reduceCtorEq, ↓reduceIte, Nat.reduceEqDiff, Nat.reduceAdd, Nat.reduceSub, Nat.reduceMul, Nat.reduceLT, Nat.reduceLeDiff, Nat.reduceBEq, Nat.reduceBNe, Nat.reducePow, Nat.reduceDiv, Nat.reduceMod, Int.reduceAdd, Int.reduceSub, Int.reduceMul, Int.reduceLT, Int.reduceLE, Int.reduceEq, Int.reduceNe, Int.reduceNeg, Int.reduceToNat, Int.reducePow, Int.reduceDiv, Int.reduceMod, he]
      · simp only [go_sem, reduceCtorEq, ↓reduceIte, Nat.reduceEqDiff, Nat.reduceAdd, Nat.reduceSub, Nat.reduceMul, Nat.reduceLT, Nat.reduceLeDiff, Nat.reduceBEq, Nat.reduceBNe, Nat.reducePow, Nat.reduceDiv, Nat.reduceMod, Int.reduceAdd, Int.reduceSub, Int.reduceMul, Int.reduceLT, Int.reduceLE, Int.reduceEq, Int.reduceNe, Int.reduceNeg, Int.reduceToNat, Int.reducePow, Int.reduceDiv, Int.reduceMod, he, hh]
  · simp only [go_sem, reduceCtorEq, ↓reduceIte, Nat.reduceEqDiff, Nat.reduceAdd, Nat.reduceSub, Nat.reduceMul, Nat.reduceLT, Nat.reduceLeDiff, Nat.reduceBEq, Nat.reduceBNe, Nat.reducePow, Nat.reduceDiv, Nat.reduceMod, Int.reduceAdd, Int.reduceSub, Int.reduceMul, Int.reduceLT, Int.reduceLE, Int.reduceEq, Int.reduceNe, Int.reduceNeg, Int.reduceToNat, Int.reducePow, Int.reduceDiv, Int.reduceMod]
  · simp only [go_sem, reduceCtorEq, ↓reduceIte, Nat.reduceEqDiff, Nat.reduceAdd, Nat.reduceSub, Nat.reduceMul, Nat.reduceLT, Nat.reduceLeDiff, Nat.reduceBEq, Nat.reduceBNe, Nat.reducePow, Nat.reduceDiv, Nat.reduceMod, Int.reduceAdd, Int.reduceSub, Int.reduceMul, Int.reduceLT, Int.reduceLE, Int.reduceEq, Int.reduceNe, Int.reduceNeg, Int.reduceToNat, Int.reducePow, Int.reduceDiv, Int.reduceMod]
end Go.Proofs.YtmjkhbjfacfmcaaGreatDoor.VX
end
section
namespace Go.Proofs.YtmjkhbjfacfmcaaGreatDoor.VX
open Go Go.RowKit Go.Proofs.YtmjkhbjfacfmcaaGreatDoor.NM Go.Proofs.YtmjkhbjfacfmcaaGreatDoor.NT IntWalk
set_option linter.unusedVariables false
set_option linter.unusedSimpArgs false
variable {X : Ctx}
theorem call_fin {f : Nat} {es : List E} {g : Env} {h : Heap} {K : E → Env → Heap → Prop} {t : Tok3 K} (hc : evCall X f es ⟨g, h⟩ fun r S' => K r S'.env S'.heap) : callK X f es g h K t := hc
theorem div_l0 (hL : LibN X) (v : List Int) (m : Nat) (V T : Int) (hVe : vl 4294967296 v = V) (hv : Dig 4294967296 v) (hn2 : 2 ≤ v.length) (hml : m + v.length ≤ 1000000000000) (hv1 : 2147483648 ≤ rd v ((v.length - 1 : Nat) : Int)) (hV : 0 < V) {Q : Ex → St → Prop} (by_ : Int)
    (hQ : ∀ S u o, u.length = m + v.length → o.length = m → Dig 4294967296 u → Dig 4294967296 o → vl 4294967296 u < V → Hold (vl 4294967296 u + V * vl 4294967296 o = T) → En S [(4, .op 102 0 0), (5, .op 103 0 0), (9, i64 v.length), (10, i64 by_), (11, .os 105 0 (m + v.length)), (13, .os 107 0 m)] →
      Hp S [(102, .m 26 [.v (.sl 1 [])]), (103, .m 26 [.v (.sl 1 [])]), (105, .p 59 1 (nums .u32 u)), (107, .p 59 1 (nums .u32 o))] → S.heap 108 = none → (∀ ids, okB ids (S.heap 100)) → (∀ ids, okB ids (S.heap 101)) → (∀ ids, okB ids (S.heap 104)) → Q (.x 1) S) (A B4 : Option Blk) (hA : True) :
    ∀ (j : Nat) (u o : List Int) (S : St), j ≤ m → u.length = m + v.length → o.length = m → Dig 4294967296 u → Dig 4294967296 o → vl 4294967296 (u.drop j) < V → (∀ p, p < j → rd o (p : Int) = 0) → Hold (vl 4294967296 u + V * vl 4294967296 o = T) →
    En S [(4, .op 102 0 0), (5, .op 103 0 0), (9, i64 v.length), (10, i64 by_), (11, .os 105 0 (m + v.length)), (12, .v (u32s v)), (13, .os 107 0 m), (14, i64 ((j : Int) - 1))] →
      Hp S [(102, .m 26 [.v (.sl 1 [])]), (103, .m 26 [.v (.sl 1 [])]), (105, .p 59 1 (nums .u32 u)), (107, .p 59 1 (nums .u32 o))] → (∀ ids, okB ids (S.heap 100)) → (∀ ids, okB ids (S.heap 101)) → (∀ ids, okB ids (S.heap 104)) → wpC X F_nat_DivMod_l0 Q S := by
  intro j
  induction j with
  | zero =>
    intro u o S hj hul hol hu ho hlt hz hv' he hh h100 h101 h104
    simp only [En, Hp, and_true] at he hh
    simp only [List.drop_zero] at hlt
    refine wpC_round rfl ?_
    simp (disch := omega) only [sd_t, dec_t, dec_f, i64_in, u32_in, u64_in, i64_quo, u32_quo, u64_quo, rem_in, Int.toNat_of_nonneg, go_sem, reduceCtorEq, ↓reduceIte, Nat.reduceEqDiff, Nat.reduceAdd, Nat.reduceSub, Nat.reduceMul, Nat.reduceLT, Nat.reduceLeDiff, Nat.reduceBEq, Nat.reduceBNe, Nat.reducePow, Nat.reduceDiv, Nat.reduceMod, Int.reduceAdd, Int.reduceSub, Int.reduceMul, Int.reduceLT, Int.reduceLE, Int.reduceEq, Int.reduceNe, Int.reduceNeg, Int.reduceToNat, Int.reducePow, Int.reduceDiv, Int.reduceMod, F_nat_DivMod_b0, he, hh, h100, h101, h104]
    refine hQ _ u o hul hol hu ho hlt hv' ?_ ?_ ?_ ?_ ?_ ?_
    · simp only [go_sem, reduceCtorEq, ↓reduceIte, Nat.reduceEqDiff, Nat.reduceAdd, Nat.reduceSub, Nat.reduceMul, Nat.reduceLT, Nat.reduceLeDiff, Nat.reduceBEq, Nat.reduceBNe, Nat.reducePow, Nat.reduceDiv, Nat.reduceMod, Int.reduceAdd, Int.reduceSub, Int.reduceMul, Int.reduceLT, Int.reduceLE, Int.reduceEq, Int.reduceNe, Int.reduceNeg, Int.reduceToNat, Int.reducePow, Int.reduceDiv, Int.reduceMod, he, hh]
    · simp only [go_sem, reduceCtorEq, ↓reduceIte, Nat.reduceEqDiff, Nat.reduceAdd, Nat.reduceSub, Nat.reduceMul, Nat.reduceLT, Nat.reduceLeDiff, Nat.reduceBEq, Nat.reduceBNe, Nat.reducePow, Nat.reduceDiv, Nat.reduceMod, Int.reduceAdd, Int.reduceSub, Int.reduceMul, Int.reduceLT, Int.reduceLE, Int.reduceEq, Int.reduceNe, Int.reduceNeg, Int.reduceToNat, Int.reducePow, Int.reduceDiv, Int.reduceMod, he, hh]
    · simp only [go_sem, reduceCtorEq, ↓reduceIte, Nat.reduceEqDiff, Nat.reduceAdd, Nat.reduceSub, Nat.reduceMul, Nat.reduceLT, Nat.reduceLeDiff, Nat.reduceBEq, Nat.reduceBNe, Nat.reducePow, Nat.reduceDiv, Nat.reduceMod, Int.reduceAdd, Int.reduceSub, Int.reduceMul, Int.reduceLT, Int.reduceLE, Int.reduceEq, Int.reduceNe, Int.reduceNeg, Int.reduceToNat, Int.reducePow, Int.reduceDiv, Int.reduceMod]
    · intro ids; simp only [go_sem, reduceCtorEq, ↓reduceIte, Nat.reduceEqDiff, Nat.reduceAdd, Nat.reduceSub, Nat.reduceMul, Nat.reduceLT, Nat.reduceLeDiff, Nat.reduceBEq, Nat.reduceBNe, Nat.reducePow, Nat.reduceDiv, Nat.reduceMod, Int.reduceAdd, Int.reduceSub, Int.reduceMul, Int.reduceLT, Int.reduceLE, Int.reduceEq, Int.reduceNe, Int.reduceNeg, Int.reduceToNat, Int.reducePow, Int.reduceDiv, Int.reduceMod, h100]
    · intro ids; simp only [go_sem, reduceCtorEq, ↓reduceIte, Nat.reduceEqDiff, Nat.reduceAdd, Nat.reduceSub, Nat.reduceMul, Nat.reduceLT, Nat.reduceLeDiff, Nat.reduceBEq, Nat.reduceBNe, Nat.reducePow, Nat.reduceDiv, Nat.reduceMod, Int.reduceAdd, Int.reduceSub, Int.reduceMul, Int.reduceLT, Int.reduceLE, Int.reduceEq, Int.reduceNe, Int.reduceNeg, Int.reduceToNat, Int.reducePow, Int.reduceDiv, Int.reduceMod, h101]
    · intro ids; simp only [go_sem, reduceCtorEq, ↓reduceIte, Nat.reduceEqDiff, Nat.reduceAdd, Nat.reduceSub, Nat.reduceMul, Nat.reduceLT, Nat.reduceLeDiff, Nat.reduceBEq, Nat.reduceBNe, Nat.reducePow, Nat.reduceDiv, Nat.reduceMod, Int.reduceAdd, Int.reduceSub, Int.reduceMul, Int.reduceLT, Int.reduceLE, Int.reduceEq, Int.reduceNe, Int.reduceNeg, Int.reduceToNat, Int.reducePow, Int.reduceDiv, Int.reduceMod, h104]
  | succ j ih =>
    intro u o S hj hul hol hu ho hlt hz hv' he hh h100 h101 h104
    simp only [En, Hp, and_true] at he hh
    have hW : Hold (vl 4294967296 (u.drop j) < 4294967296 * vl 4294967296 v) := by
      unfold Hold
      rw [hVe, vl_drop_rd _ _ _ (by omega)]
      have := hu.rd (by omega) j
      omega
    have hju : j + v.length < u.length := by omega
    obtain ⟨g, g1, g2, g3⟩ := guess_fn hL.P u v j hu hv hn2 hju (by omega) hv1 hW
    rw [hVe] at g1 g2
    have hQ0 : 0 ≤ vl 4294967296 (u.drop j) / V := Int.ediv_nonneg (vl_nonneg (by omega) (hu.drop j)) (Int.le_of_lt hV)
    have hQB : vl 4294967296 (u.drop j) / V < 4294967296 := Int.ediv_lt_of_lt_mul hV (by unfold Hold at hW; rw [hVe] at hW; exact hW)
    refine wpC_round rfl ?_
    simp (disch := omega) only [sd_t, dec_t, dec_f, i64_in, u32_in, u64_in, i64_quo, u32_quo, u64_quo, rem_in, Int.toNat_of_nonneg, go_sem, reduceCtorEq, ↓reduceIte, Nat.reduceEqDiff, Nat.reduceAdd, Nat.reduceSub, Nat.reduceMul, Nat.reduceLT, Nat.reduceLeDiff, Nat.reduceBEq, Nat.reduceBNe, Nat.reducePow, Nat.reduceDiv, Nat.reduceMod, Int.reduceAdd, Int.reduceSub, Int.reduceMul, Int.reduceLT, Int.reduceLE, Int.reduceEq, Int.reduceNe, Int.reduceNeg, Int.reduceToNat, Int.reducePow, Int.reduceDiv, Int.reduceMod, F_nat_DivMod_b0, he, hh, h100, h101, h104]
    refine cb_of g3 ?_ rfl ?_
    · simp [purL, purE, mkH, upd, hh, nums_take, List.take_of_length_le (Nat.le_of_eq hul)]
    simp (disch := omega) only [sd_t, dec_t, dec_f, i64_in, u32_in, u64_in, i64_quo, u32_quo, u64_quo, rem_in, Int.toNat_of_nonneg, go_sem, reduceCtorEq, ↓reduceIte, Nat.reduceEqDiff, Nat.reduceAdd, Nat.reduceSub, Nat.reduceMul, Nat.reduceLT, Nat.reduceLeDiff, Nat.reduceBEq, Nat.reduceBNe, Nat.reducePow, Nat.reduceDiv, Nat.reduceMod, Int.reduceAdd, Int.reduceSub, Int.reduceMul, Int.reduceLT, Int.reduceLE, Int.reduceEq, Int.reduceNe, Int.reduceNeg, Int.reduceToNat, Int.reducePow, Int.reduceDiv, Int.reduceMod, he, hh]
    have hctr := reduce_ctr hL u v j g hu hv hju (by omega) (by omega) (by omega) (by rw [hVe]; exact hV) hW (by rw [hVe]; exact g1) (by rw [hVe]; exact g2)
    rw [hVe] at hctr
    refine call_fin (call_of (lend := [(0, 105)]) (new := []) rfl ?_ (by simp) ?_ (by
      have e1 : lentH [(0, 105)] (mkH [100, 101, 102, 103, 104, 105, 107] S.heap) = upd noH 0 (some (.p 59 1 (nums .u32 u))) := by
        funext k
        by_cases hk : k = 0
        · subst hk; simp [lentH, mkH, upd, hh]
        · have : ¬ 0 = k := fun h => hk h.symm
          simp [lentH, this, upd, hk, noH]
      have e2 : [E.os 105 0 (m + v.length), .v (u32s v), i64 (j : Int), u64 g].map (E.ren fun c => (toK [(0, 105)] c).getD 0) = [.os 0 0 u.length, .v (u32s v), i64 (j : Int), u64 g] := by
        simp [E.ren, toK, hul]
      exact e1 ▸ e2 ▸ hctr) ?_)
    · intro p hp
      obtain rfl : p = (0, 105) := by simpa using hp
      show isP (mkH [100, 101, 102, 103, 104, 105, 107] S.heap 105)
      simp [mkH, upd, hh, isP]
    · intro e hee
      simp only [List.mem_cons, List.not_mem_nil, or_false] at hee
      rcases hee with rfl | rfl | rfl | rfl <;> simp [E.ids]
    · rintro H1 r ⟨u', w, hval, rfl, rfl⟩
      refine ⟨fun p hp => ?_, fun k hs => ?_, rfl, ?_⟩
      · obtain rfl : p = (0, 105) := by simpa using hp
        simp only [upd_same]
        trivial
      · by_cases hk : k = 0
        · subst hk; exact ⟨105, by simp⟩
        · rw [upd_ne _ _ _ hk] at hs; cases hs
      have e3 : backH ([(0, 105)] ++ []) (upd noH 0 (some (.p 59 1 (nums .u32 u')))) (mkH [100, 101, 102, 103, 104, 105, 107] S.heap) = upd (mkH [100, 101, 102, 103, 104, 105, 107] S.heap) 105 (some (.p 59 1 (nums .u32 u'))) := by
        funext c
        by_cases hc : c = 105
        · subst hc; simp [backH, toK, upd_same]
        · have : ¬ 105 = c := fun h => hc h.symm
          simp [backH, toK, this, upd_ne _ _ _ hc]
      rw [e3]
      have hwl := w.len
      have hdm := Int.mul_ediv_add_emod (vl 4294967296 (u.drop j)) V
      have hm1 := Int.emod_lt_of_pos (vl 4294967296 (u.drop j)) hV
      obtain ⟨qq, hqq⟩ : ∃ qq, vl 4294967296 (u.drop j) / V = qq := ⟨_, rfl⟩
      rw [hqq] at hQ0 hQB hdm ⊢
      simp (disch := omega) only [sd_t, dec_t, dec_f, i64_in, u32_in, u64_in, i64_quo, u32_quo, u64_quo, rem_in, Int.toNat_of_nonneg, go_sem, reduceCtorEq, ↓reduceIte, Nat.reduceEqDiff, Nat.reduceAdd, Nat.reduceSub, Nat.reduceMul, Nat.reduceLT, Nat.reduceLeDiff, Nat.reduceBEq, Nat.reduceBNe, Nat.reducePow, Nat.reduceDiv, Nat.reduceMod, Int.reduceAdd, Int.reduceSub, Int.reduceMul, Int.reduceLT, Int.reduceLE, Int.reduceEq, Int.reduceNe, Int.reduceNeg, Int.reduceToNat, Int.reducePow, Int.reduceDiv, Int.reduceMod, he, hh, hol, E.ren]
      refine ih u' (o.set j qq) _ (by omega) (by omega) (by simpa using hol) w.dig (ho.set j hQ0 hQB) (by rw [hval]; exact hm1) (fun p hp => by rw [rd_set_ne _ _ _ _ (by omega)]; exact hz p (by omega)) ?_ ?_ ?_ ?_ ?_ ?_
      · unfold Hold at hv' ⊢
        rw [vl_set _ _ _ _ (by omega), hz j (by omega), vl_split 4294967296 u' j (by omega), w.low, hval]
        rw [vl_split 4294967296 u j (by omega)] at hv'
        generalize (4294967296 : Int) ^ j = P at *
        generalize vl 4294967296 (u.drop j) = W at *
        rw [← hv', ← hdm]
        grind
      · simp only [go_sem, reduceCtorEq, ↓reduceIte, Nat.reduceEqDiff, Nat.reduceAdd, Nat.reduceSub, Nat.reduceMul, Nat.reduceLT, Nat.reduceLeDiff, Nat.reduceBEq, Nat.reduceBNe, Nat.reducePow, Nat.reduceDiv, Nat.reduceMod, Int.reduceAdd, Int.reduceSub, Int.reduceMul, Int.reduceLT, Int.reduceLE, Int.reduceEq, Int.reduceNe, Int.reduceNeg, Int.reduceToNat, Int.reducePow, Int.reduceDiv, Int.reduceMod, he, hh]
      · simp only [go_sem, reduceCtorEq, ↓reduceIte, Nat.reduceEqDiff, Nat.reduceAdd, Nat.reduceSub, Nat.reduceMul, Nat.reduceLT, Nat.reduceLeDiff, Nat.reduceBEq, Nat.reduceBNe, Nat.reducePow, Nat.reduceDiv, Nat.reduceMod, Int.reduceAdd, Int.reduceSub, Int.reduceMul, Int.reduceLT, Int.reduceLE, Int.reduceEq, Int.reduceNe, Int.reduceNeg, Int.reduceToNat, Int.reducePow, Int.reduceDiv, Int.reduceMod, he, hh]
      · intro ids; simp only [go_sem, reduceCtorEq, ↓reduceIte, Nat.reduceEqDiff, Nat.reduceAdd, Nat.reduceSub, Nat.reduceMul, Nat.reduceLT, Nat.reduceLeDiff, Nat.reduceBEq, Nat.reduceBNe, Nat.reducePow, Nat.reduceDiv, Nat.reduceMod, Int.reduceAdd, Int.reduceSub, Int.reduceMul, Int.reduceLT, Int.reduceLE, Int.reduceEq, Int.reduceNe, Int.reduceNeg, Int.reduceToNat, Int.reducePow, Int.reduceDiv, Int.reduceMod, h100]
      · intro ids; simp only [go_sem, reduceCtorEq, ↓reduceIte, Nat.reduceEqDiff, Nat.reduceAdd, Nat.reduceSub, Nat.reduceMul, Nat.reduceLT, Nat.reduceLeDiff, Nat.reduceBEq, Nat.reduceBNe, Nat.reducePow, Nat.reduceDiv, Nat.reduceMod, Int.reduceAdd, Int.reduceSub, Int.reduceMul, Int.reduceLT, Int.reduceLE, Int.reduceEq, Int.reduceNe, Int.reduceNeg, Int.reduceToNat, Int.reducePow, Int.reduceDiv, Int.reduceMod, h101]
      · intro ids; simp only [go_sem, reduceCtorEq, ↓reduceIte, Nat.reduceEqDiff, Nat.reduceAdd, Nat.reduceSub, Nat.reduceMul, Nat.reduceLT, Nat.reduceLeDiff, Nat.reduceBEq, Nat.reduceBNe, Nat.reducePow, Nat.reduceDiv, Nat.reduceMod, Int.reduceAdd, Int.reduceSub, Int.reduceMul, Int.reduceLT, Int.reduceLE, Int.reduceEq, Int.reduceNe, Int.reduceNeg, Int.reduceToNat, Int.reducePow, Int.reduceDiv, Int.reduceMod, h104]
end Go.Proofs.YtmjkhbjfacfmcaaGreatDoor.VX
end
section
namespace Go.Proofs.YtmjkhbjfacfmcaaGreatDoor.VX
open Go Go.RowKit Go.Proofs.YtmjkhbjfacfmcaaGreatDoor.NM Go.Proofs.YtmjkhbjfacfmcaaGreatDoor.NT IntWalk
set_option linter.unusedVariables false
set_option linter.unusedSimpArgs false
variable {X : Ctx}
theorem shift_digit (x y P C : Nat) (hP : 0 < P) (hy : y < P * C) : ((x * (P * C) + y) / P) % (P * C) = (x % P) * C + y / P := by
  have h1 : (x * (P * C) + y) / P = x * C + y / P := by
    rw [show x * (P * C) + y = y + P * (x * C) by rw [Nat.add_comm, Nat.mul_left_comm], Nat.add_mul_div_left _ _ hP, Nat.add_comm]
  have h2 : y / P < C := Nat.div_lt_of_lt_mul hy
  have h3 : x % P < P := Nat.mod_lt _ hP
  have h4 : x * C = (x / P) * (P * C) + (x % P) * C := by
    conv => lhs; rw [← Nat.div_add_mod x P]
    rw [Nat.add_mul, Nat.mul_comm P (x / P), Nat.mul_assoc]
  have h5 : (x % P) * C + y / P < P * C := by
    have : (x % P + 1) * C ≤ P * C := Nat.mul_le_mul_right C h3
    rw [Nat.add_mul, Nat.one_mul] at this
    omega
  rw [h1, h4, Nat.add_assoc, Nat.add_comm, Nat.add_mul_mod_self_right, Nat.mod_eq_of_lt h5]
theorem div_l1 (u : List Int) (n s m : Nat) (hs : s ≤ 31) (hu : Dig 4294967296 u) (hul : u.length ≤ 1000000000000) (hn : n < u.length) {Q : Ex → St → Prop} (o : List Int)
    (hQ : ∀ S r, r.length = n → Dig 4294967296 r → Hold (((2 ^ s : Nat) : Int) * vl 4294967296 r = vl 4294967296 (u.take n) + 4294967296 ^ n * (rd u (n : Int) % ((2 ^ s : Nat) : Int))) → En S [(4, .op 102 0 0), (5, .op 103 0 0), (13, .os 107 0 m), (15, .os 108 0 n)] →
      Hp S [(102, .m 26 [.v (.sl 1 [])]), (103, .m 26 [.v (.sl 1 [])]), (107, .p 59 1 (nums .u32 o)), (108, .p 59 1 (nums .u32 r))] → Q (.x 3) S) :
    ∀ (k i : Nat) (r : List Int) (S : St), k + i = n → r.length = n → Dig 4294967296 r → (∀ p, i ≤ p → rd r (p : Int) = 0) → Hold (((2 ^ s : Nat) : Int) * vl 4294967296 r = vl 4294967296 (u.take i) + 4294967296 ^ i * (rd u (i : Int) % ((2 ^ s : Nat) : Int))) →
    En S [(4, .op 102 0 0), (5, .op 103 0 0), (10, i64 s), (11, .os 105 0 u.length), (13, .os 107 0 m), (15, .os 108 0 n), (97, i64 n), (98, i64 i)] →
      Hp S [(102, .m 26 [.v (.sl 1 [])]), (103, .m 26 [.v (.sl 1 [])]), (105, .p 59 1 (nums .u32 u)), (107, .p 59 1 (nums .u32 o)), (108, .p 59 1 (nums .u32 r))] → (∀ ids, okB ids (S.heap 100)) → (∀ ids, okB ids (S.heap 101)) → (∀ ids, okB ids (S.heap 104)) → wpC X F_nat_DivMod_l1 Q S := by
  intro k
  have hs64 : s ≤ 64 := by omega
  obtain ⟨C, hC⟩ : 2 ^ s ∣ 4294967296 := Nat.pow_dvd_pow (m := s) (n := 32) 2 (by omega)
  have hP := Nat.two_pow_pos s
  induction k with
  | zero =>
    intro i r S hi hrl hr hz hv' he hh h100 h101 h104
    have hi' : i = n := by omega
    subst hi'
    simp only [En, Hp, and_true] at he hh
    refine wpC_round rfl ?_
    simp (disch := omega) only [sd_t, dec_t, dec_f, i64_in, u32_in, u64_in, i64_quo, u32_quo, u64_quo, rem_in, Int.toNat_of_nonneg, go_sem, reduceCtorEq, ↓reduceIte, Nat.reduceEqDiff, Nat.reduceAdd, Nat.reduceSub, Nat.reduceMul, Nat.reduceLT, Nat.reduceLeDiff, Nat.reduceBEq, Nat.reduceBNe, Nat.reducePow, Nat.reduceDiv, Nat.reduceMod, Int.reduceAdd, Int.reduceSub, Int.reduceMul, Int.reduceLT, Int.reduceLE, Int.reduceEq, Int.reduceNe, Int.reduceNeg, Int.reduceToNat, Int.reducePow, Int.reduceDiv, Int.reduceMod, F_nat_DivMod_b1, he, hh, h100, h101, h104]
    refine hQ _ r hrl hr hv' ?_ ?_ <;> simp only [go_sem, reduceCtorEq, ↓reduceIte, Nat.reduceEqDiff, Nat.reduceAdd, Nat.reduceSub, Nat.reduceMul, Nat.reduceLT, Nat.reduceLeDiff, Nat.reduceBEq, Nat.reduceBNe, Nat.reducePow, Nat.reduceDiv, Nat.reduceMod, Int.reduceAdd, Int.reduceSub, Int.reduceMul, Int.reduceLT, Int.reduceLE, Int.reduceEq, Int.reduceNe, Int.reduceNeg, Int.reduceToNat, Int.reducePow, Int.reduceDiv, Int.reduceMod, he, hh]
  | succ k ih =>
    intro i r S hi hrl hr hz hv' he hh h100 h101 h104
    have hx := hu.rd (by omega) (i + 1)
    have hy := hu.rd (by omega) i
    rw [Int.natCast_add, Int.natCast_one] at hx
    obtain ⟨x, hxe⟩ : ∃ x : Nat, rd u ((i : Int) + 1) = (x : Int) := ⟨(rd u ((i : Int) + 1)).toNat, by omega⟩
    obtain ⟨y, hye⟩ : ∃ y : Nat, rd u (i : Int) = (y : Int) := ⟨(rd u (i : Int)).toNat, by omega⟩
    rw [hxe] at hx
    rw [hye] at hy
    have hor : Go.bits .or .u64 ((x : Int) * 4294967296) (y : Int) = (x : Int) * 4294967296 + (y : Int) := u64_or_join _ _ hx.1 hx.2 hy.1 hy.2
    obtain ⟨d, hd⟩ : ∃ d : Nat, (x * 4294967296 + y) / 2 ^ s % 4294967296 = d := ⟨_, rfl⟩
    have hsd := shift_digit x y (2 ^ s) C hP (by omega)
    rw [← hC, hd] at hsd
    have hdl : d < 4294967296 := by rw [← hd]; exact Nat.mod_lt _ (by omega)
    have hdI : ((x : Int) * 4294967296 + (y : Int)) / 2 ^ s % 4294967296 = (d : Int) := by
      rw [← hd]; simp
    simp only [En, Hp, and_true] at he hh
    refine wpC_round rfl ?_
    simp (disch := omega) only [sd_t, dec_t, dec_f, i64_in, u32_in, u64_in, i64_quo, u32_quo, u64_quo, rem_in, Int.toNat_of_nonneg, go_sem, reduceCtorEq, ↓reduceIte, Nat.reduceEqDiff, Nat.reduceAdd, Nat.reduceSub, Nat.reduceMul, Nat.reduceLT, Nat.reduceLeDiff, Nat.reduceBEq, Nat.reduceBNe, Nat.reducePow, Nat.reduceDiv, Nat.reduceMod, Int.reduceAdd, Int.reduceSub, Int.reduceMul, Int.reduceLT, Int.reduceLE, Int.reduceEq, Int.reduceNe, Int.reduceNeg, Int.reduceToNat, Int.reducePow, Int.reduceDiv, Int.reduceMod, F_nat_DivMod_b1, he, hh, h100, h101, h104, hxe, hye, hor, hs64, IntKind.wrap_u32, hdI, hrl]
    have hPd : ((2 ^ s : Nat) : Int) * (d : Int) = ((x : Int) % ((2 ^ s : Nat) : Int)) * 4294967296 + (y : Int) - (y : Int) % ((2 ^ s : Nat) : Int) := by
      have h1 := Nat.div_add_mod y (2 ^ s)
      have h2 : 2 ^ s * d = (x % 2 ^ s) * 4294967296 + 2 ^ s * (y / 2 ^ s) := by
        rw [hsd, Nat.mul_add]
        conv => rhs; rw [hC]
        rw [Nat.mul_left_comm]
      have h3 : 2 ^ s * d + y % 2 ^ s = (x % 2 ^ s) * 4294967296 + y := by omega
      have h4 : ((2 ^ s * d + y % 2 ^ s : Nat) : Int) = (((x % 2 ^ s) * 4294967296 + y : Nat) : Int) := by rw [h3]
      simp only [Int.natCast_add, Int.natCast_mul, Int.natCast_emod] at h4
      generalize ((2 ^ s : Nat) : Int) * (d : Int) = W at *
      omega
    refine ih (i + 1) (r.set i (d : Int)) _ (by omega) (by simpa using hrl) (hr.set i (by omega) (by omega)) (fun p hp => by rw [rd_set_ne _ _ _ _ (by omega)]; exact hz p (by omega)) ?_ ?_ ?_ ?_ ?_ ?_
    · unfold Hold at hv' ⊢
      rw [vl_set _ _ _ _ (by omega), hz i (Nat.le_refl _), vl_take_succ, hye, Int.natCast_add, Int.natCast_one, hxe, Int.pow_succ, Int.mul_add, hv', hye]
      have e : ((2 ^ s : Nat) : Int) * ((4294967296 : Int) ^ i * ((d : Int) - 0)) = 4294967296 ^ i * (((2 ^ s : Nat) : Int) * (d : Int)) := by grind
      rw [e, hPd]
      generalize (4294967296 : Int) ^ i = Z at *
      generalize (x : Int) % ((2 ^ s : Nat) : Int) = a at *
      generalize (y : Int) % ((2 ^ s : Nat) : Int) = b at *
      grind
    · simp only [go_sem, reduceCtorEq, ↓reduceIte, Nat.reduceEqDiff, Nat.reduceAdd, Nat.reduceSub, Nat.reduceMul, Nat.reduceLT, Nat.reduceLeDiff, Nat.reduceBEq, Nat.reduceBNe, Nat.reducePow, Nat.reduceDiv, Nat.reduceMod, Int.reduceAdd, Int.reduceSub, Int.reduceMul, Int.reduceLT, Int.reduceLE, Int.reduceEq, Int.reduceNe, Int.reduceNeg, Int.reduceToNat, Int.reducePow, Int.reduceDiv, Int.reduceMod, he, hh]
    · simp only [go_sem, reduceCtorEq, ↓reduceIte, Nat.reduceEqDiff, Nat.reduceAdd, Nat.reduceSub, Nat.reduceMul, Nat.reduceLT, Nat.reduceLeDiff, Nat.reduceBEq, Nat.reduceBNe, Nat.reducePow, Nat.reduceDiv, Nat.reduceMod, Int.reduceAdd, Int.reduceSub, Int.reduceMul, Int.reduceLT, Int.reduceLE, Int.reduceEq, Int.reduceNe, Int.reduceNeg, Int.reduceToNat, Int.reducePow, Int.reduceDiv, Int.reduceMod, he, hh]
    · intro ids; simp only [go_sem, reduceCtorEq, ↓reduceIte, Nat.reduceEqDiff, Nat.reduceAdd, Nat.reduceSub, Nat.reduceMul, Nat.reduceLT, Nat.reduceLeDiff, Nat.reduceBEq, Nat.reduceBNe, Nat.reducePow, Nat.reduceDiv, Nat.reduceMod, Int.reduceAdd, Int.reduceSub, Int.reduceMul, Int.reduceLT, Int.reduceLE, Int.reduceEq, Int.reduceNe, Int.reduceNeg, Int.reduceToNat, Int.reducePow, Int.reduceDiv, Int.reduceMod, h100]
    · intro ids; simp only [go_sem, reduceCtorEq, ↓reduceIte, Nat.reduceEqDiff, Nat.reduceAdd, Nat.reduceSub, Nat.reduceMul, Nat.reduceLT, Nat.reduceLeDiff, Nat.reduceBEq, Nat.reduceBNe, Nat.reducePow, Nat.reduceDiv, Nat.reduceMod, Int.reduceAdd, Int.reduceSub, Int.reduceMul, Int.reduceLT, Int.reduceLE, Int.reduceEq, Int.reduceNe, Int.reduceNeg, Int.reduceToNat, Int.reducePow, Int.reduceDiv, Int.reduceMod, h101]
    · intro ids; simp only [go_sem, reduceCtorEq, ↓reduceIte, Nat.reduceEqDiff, Nat.reduceAdd, Nat.reduceSub, Nat.reduceMul, Nat.reduceLT, Nat.reduceLeDiff, Nat.reduceBEq, Nat.reduceBNe, Nat.reducePow, Nat.reduceDiv, Nat.reduceMod, Int.reduceAdd, Int.reduceSub, Int.reduceMul, Int.reduceLT, Int.reduceLE, Int.reduceEq, Int.reduceNe, Int.reduceNeg, Int.reduceToNat, Int.reducePow, Int.reduceDiv, Int.reduceMod, h104]
end Go.Proofs.YtmjkhbjfacfmcaaGreatDoor.VX
end
section
namespace Go.Proofs.YtmjkhbjfacfmcaaGreatDoor.VX
open Go Go.RowKit Go.Proofs.YtmjkhbjfacfmcaaGreatDoor.NM Go.Proofs.YtmjkhbjfacfmcaaGreatDoor.NT IntWalk
set_option linter.unusedVariables false
set_option linter.unusedSimpArgs false
variable {X : Ctx}
theorem dg_len_pos {n : Nat} (h : 0 < n) : 0 < (dg 4294967296 n).length := by
  rw [dg_pos (by omega) h]; simp
theorem pad_length (B : Nat) : ∀ (k n : Nat), (pad B k n).length = k
  | 0, _ => rfl
  | k + 1, n => by rw [pad, List.length_cons, pad_length B k]
theorem dig_pad {B : Nat} (hB : 0 < B) : ∀ (k n : Nat), Dig B (pad B k n)
  | 0, _ => Dig.nil _
  | k + 1, n => by
    have := Nat.mod_lt n hB
    exact Dig.cons (by omega) (by omega) (dig_pad hB k _)
theorem vl_pad {B : Nat} (hB : 0 < B) : ∀ (k n : Nat), n < B ^ k → vl B (pad B k n) = (n : Int)
  | 0, n, h => by
    have : n = 0 := by simpa using h
    subst this
    rfl
  | k + 1, n, h => by
    have h1 : n / B < B ^ k := by
      rw [Nat.div_lt_iff_lt_mul hB, ← Nat.pow_succ]; exact h
    rw [pad, vl, vl_pad hB k _ h1]
    have := Nat.mod_add_div n B
    have h2 : ((n % B + B * (n / B) : Nat) : Int) = (n : Int) := by rw [this]
    rw [← h2]
    simp
theorem norm_pad (hP : X.P = Tryz.prog) {k n : Nat} (hk : k ≤ 1099511627776) (h : n < 4294967296 ^ k) : Fn X 33 [u32s (pad 4294967296 k n)] (nat (dg 4294967296 n)) :=
  norm_nat hP (by rw [pad_length]; exact hk) (dig_pad (B := 4294967296) (by omega) k n) (vl_pad (B := 4294967296) (by omega) k n h)
theorem DivMod_less (hL : LibN X) (a b : Nat) (ha : (dg 4294967296 a).length ≤ 1099511627776) (hab : a < b) : Fn X 9 [nat (dg 4294967296 a), nat (dg 4294967296 b)] (.tu [nat (dg 4294967296 (a / b)), nat (dg 4294967296 (a % b)), vi .i64 0]) := by
  have hb := dg_len_pos (n := b) (by omega)
  have hc : cmp (a : Int) (b : Int) = -1 := cmp_lt (by omega)
  rw [Nat.div_eq_of_lt hab, Nat.mod_eq_of_lt hab, dg_zero]
  refine W_nat_DivMod hL.P rfl ?_
  simp (disch := omega) only [sd_t, dec_t, dec_f, i64_in, u32_in, u64_in, i64_quo, u32_quo, u64_quo, rem_in, Int.toNat_of_nonneg, go_sem, reduceCtorEq, ↓reduceIte, Nat.reduceEqDiff, Nat.reduceAdd, Nat.reduceSub, Nat.reduceMul, Nat.reduceLT, Nat.reduceLeDiff, Nat.reduceBEq, Nat.reduceBNe, Nat.reducePow, Nat.reduceDiv, Nat.reduceMod, Int.reduceAdd, Int.reduceSub, Int.reduceMul, Int.reduceLT, Int.reduceLE, Int.reduceEq, Int.reduceNe, Int.reduceNeg, Int.reduceToNat, Int.reducePow, Int.reduceDiv, Int.reduceMod, F_nat_DivMod, R_nat_DivMod]
  refine cp_of (IsZero_fn hL.P _) rfl ?_
  simp (disch := omega) only [sd_t, dec_t, dec_f, i64_in, u32_in, u64_in, i64_quo, u32_quo, u64_quo, rem_in, Int.toNat_of_nonneg, go_sem, reduceCtorEq, ↓reduceIte, Nat.reduceEqDiff, Nat.reduceAdd, Nat.reduceSub, Nat.reduceMul, Nat.reduceLT, Nat.reduceLeDiff, Nat.reduceBEq, Nat.reduceBNe, Nat.reducePow, Nat.reduceDiv, Nat.reduceMod, Int.reduceAdd, Int.reduceSub, Int.reduceMul, Int.reduceLT, Int.reduceLE, Int.reduceEq, Int.reduceNe, Int.reduceNeg, Int.reduceToNat, Int.reducePow, Int.reduceDiv, Int.reduceMod]
  refine cp_of (Cmp_fn hL.P a b ha) rfl ?_
  simp (disch := omega) only [sd_t, dec_t, dec_f, i64_in, u32_in, u64_in, i64_quo, u32_quo, u64_quo, rem_in, Int.toNat_of_nonneg, go_sem, reduceCtorEq, ↓reduceIte, Nat.reduceEqDiff, Nat.reduceAdd, Nat.reduceSub, Nat.reduceMul, Nat.reduceLT, Nat.reduceLeDiff, Nat.reduceBEq, Nat.reduceBNe, Nat.reducePow, Nat.reduceDiv, Nat.reduceMod, Int.reduceAdd, Int.reduceSub, Int.reduceMul, Int.reduceLT, Int.reduceLE, Int.reduceEq, Int.reduceNe, Int.reduceNeg, Int.reduceToNat, Int.reducePow, Int.reduceDiv, Int.reduceMod, hc]
  rfl
theorem DivMod_one (hL : LibN X) (a b : Nat) (ha : (dg 4294967296 a).length ≤ 1099511627776) (hb0 : 0 < b) (hba : b ≤ a) (hb : b < 4294967296) : Fn X 9 [nat (dg 4294967296 a), nat (dg 4294967296 b)] (.tu [nat (dg 4294967296 (a / b)), nat (dg 4294967296 (a % b)), vi .i64 0]) := by
  have hbd : dg 4294967296 b = [(b : Int)] := by
    rw [dg_pos (by omega) hb0, Nat.mod_eq_of_lt hb, Nat.div_eq_of_lt hb, dg_zero]
  have hc : ¬ cmp (a : Int) (b : Int) < 0 := by unfold cmp; split <;> omega
  have hm := Nat.mod_lt a hb0
  refine W_nat_DivMod hL.P rfl ?_
  rw [hbd]
  simp (disch := omega) only [sd_t, dec_t, dec_f, i64_in, u32_in, u64_in, i64_quo, u32_quo, u64_quo, rem_in, Int.toNat_of_nonneg, go_sem, reduceCtorEq, ↓reduceIte, Nat.reduceEqDiff, Nat.reduceAdd, Nat.reduceSub, Nat.reduceMul, Nat.reduceLT, Nat.reduceLeDiff, Nat.reduceBEq, Nat.reduceBNe, Nat.reducePow, Nat.reduceDiv, Nat.reduceMod, Int.reduceAdd, Int.reduceSub, Int.reduceMul, Int.reduceLT, Int.reduceLE, Int.reduceEq, Int.reduceNe, Int.reduceNeg, Int.reduceToNat, Int.reducePow, Int.reduceDiv, Int.reduceMod, F_nat_DivMod, R_nat_DivMod]
  refine cp_of (IsZero_fn hL.P _) rfl ?_
  simp (disch := omega) only [sd_t, dec_t, dec_f, i64_in, u32_in, u64_in, i64_quo, u32_quo, u64_quo, rem_in, Int.toNat_of_nonneg, go_sem, reduceCtorEq, ↓reduceIte, Nat.reduceEqDiff, Nat.reduceAdd, Nat.reduceSub, Nat.reduceMul, Nat.reduceLT, Nat.reduceLeDiff, Nat.reduceBEq, Nat.reduceBNe, Nat.reducePow, Nat.reduceDiv, Nat.reduceMod, Int.reduceAdd, Int.reduceSub, Int.reduceMul, Int.reduceLT, Int.reduceLE, Int.reduceEq, Int.reduceNe, Int.reduceNeg, Int.reduceToNat, Int.reducePow, Int.reduceDiv, Int.reduceMod]
  refine cp_of (xs := [nat (dg 4294967296 a), nat (dg 4294967296 b)]) (Cmp_fn hL.P a b ha) (by rw [hbd]; rfl) ?_
  have hr : rd [(b : Int)] 0 = (b : Int) := rfl
  simp (disch := omega) only [sd_t, dec_t, dec_f, i64_in, u32_in, u64_in, i64_quo, u32_quo, u64_quo, rem_in, Int.toNat_of_nonneg, go_sem, reduceCtorEq, ↓reduceIte, Nat.reduceEqDiff, Nat.reduceAdd, Nat.reduceSub, Nat.reduceMul, Nat.reduceLT, Nat.reduceLeDiff, Nat.reduceBEq, Nat.reduceBNe, Nat.reducePow, Nat.reduceDiv, Nat.reduceMod, Int.reduceAdd, Int.reduceSub, Int.reduceMul, Int.reduceLT, Int.reduceLE, Int.reduceEq, Int.reduceNe, Int.reduceNeg, Int.reduceToNat, Int.reducePow, Int.reduceDiv, Int.reduceMod, hr]
  refine cp_of (short_fn hL a b ha hb0 hb) rfl ?_
  simp (disch := omega) only [sd_t, dec_t, dec_f, i64_in, u32_in, u64_in, i64_quo, u32_quo, u64_quo, rem_in, Int.toNat_of_nonneg, go_sem, reduceCtorEq, ↓reduceIte, Nat.reduceEqDiff, Nat.reduceAdd, Nat.reduceSub, Nat.reduceMul, Nat.reduceLT, Nat.reduceLeDiff, Nat.reduceBEq, Nat.reduceBNe, Nat.reducePow, Nat.reduceDiv, Nat.reduceMod, Int.reduceAdd, Int.reduceSub, Int.reduceMul, Int.reduceLT, Int.reduceLE, Int.reduceEq, Int.reduceNe, Int.reduceNeg, Int.reduceToNat, Int.reducePow, Int.reduceDiv, Int.reduceMod]
  have hlt : a / b < 4294967296 ^ (dg 4294967296 a).length := Nat.lt_of_le_of_lt (Nat.div_le_self a b) (lt_pow_length (B := 4294967296) (by omega) a)
  refine cp_of (norm_pad hL.P ha hlt) rfl ?_
  simp (disch := omega) only [sd_t, dec_t, dec_f, i64_in, u32_in, u64_in, i64_quo, u32_quo, u64_quo, rem_in, Int.toNat_of_nonneg, go_sem, reduceCtorEq, ↓reduceIte, Nat.reduceEqDiff, Nat.reduceAdd, Nat.reduceSub, Nat.reduceMul, Nat.reduceLT, Nat.reduceLeDiff, Nat.reduceBEq, Nat.reduceBNe, Nat.reducePow, Nat.reduceDiv, Nat.reduceMod, Int.reduceAdd, Int.reduceSub, Int.reduceMul, Int.reduceLT, Int.reduceLE, Int.reduceEq, Int.reduceNe, Int.reduceNeg, Int.reduceToNat, Int.reducePow, Int.reduceDiv, Int.reduceMod]
  refine cp_of (norm_nat hL.P (l := [((a % b : Nat) : Int)]) (n := a % b) (by simp) (Dig.cons (by omega) (by omega) (Dig.nil _)) (by simp [vl])) rfl ?_
  simp (disch := omega) only [sd_t, dec_t, dec_f, i64_in, u32_in, u64_in, i64_quo, u32_quo, u64_quo, rem_in, Int.toNat_of_nonneg, go_sem, reduceCtorEq, ↓reduceIte, Nat.reduceEqDiff, Nat.reduceAdd, Nat.reduceSub, Nat.reduceMul, Nat.reduceLT, Nat.reduceLeDiff, Nat.reduceBEq, Nat.reduceBNe, Nat.reducePow, Nat.reduceDiv, Nat.reduceMod, Int.reduceAdd, Int.reduceSub, Int.reduceMul, Int.reduceLT, Int.reduceLE, Int.reduceEq, Int.reduceNe, Int.reduceNeg, Int.reduceToNat, Int.reducePow, Int.reduceDiv, Int.reduceMod]
end Go.Proofs.YtmjkhbjfacfmcaaGreatDoor.VX
end
section
namespace Go.Proofs.YtmjkhbjfacfmcaaGreatDoor.VX
open Go Go.RowKit Go.Proofs.YtmjkhbjfacfmcaaGreatDoor.NM Go.Proofs.YtmjkhbjfacfmcaaGreatDoor.NT IntWalk
set_option linter.unusedVariables false
set_option linter.unusedSimpArgs false
variable {X : Ctx}
theorem top_shift {t : Nat} (h0 : 0 < t) (h : t < 4294967296) : ∃ s : Nat, s ≤ 31 ∧ (32 - (Lib.bitLen t : Int)) = (s : Int) ∧ 2147483648 ≤ t * 2 ^ s ∧ t * 2 ^ s < 4294967296 := by
  obtain ⟨h1, h2, h3⟩ := Lib.bitLenAux_bounds 64 t (by omega) (by omega)
  change 1 ≤ Lib.bitLen t at h1
  change 2 ^ (Lib.bitLen t - 1) ≤ t at h2
  change t < 2 ^ Lib.bitLen t at h3
  have h4 : Lib.bitLen t ≤ 32 := by
    rcases Nat.lt_or_ge 32 (Lib.bitLen t) with h5 | h5
    · exfalso
      have : 2 ^ 32 ≤ 2 ^ (Lib.bitLen t - 1) := Nat.pow_le_pow_right (by omega) (by omega)
      omega
    · exact h5
  refine ⟨32 - Lib.bitLen t, by omega, by omega, ?_, ?_⟩
  · have e : 2 ^ (Lib.bitLen t - 1) * 2 ^ (32 - Lib.bitLen t) = 2147483648 := by
      rw [← Nat.pow_add, show Lib.bitLen t - 1 + (32 - Lib.bitLen t) = 31 by omega]
    rw [← e]
    exact Nat.mul_le_mul_right _ h2
  · have e : 2 ^ Lib.bitLen t * 2 ^ (32 - Lib.bitLen t) = 4294967296 := by
      rw [← Nat.pow_add, show Lib.bitLen t + (32 - Lib.bitLen t) = 32 by omega]
    rw [← e]
    exact Nat.mul_lt_mul_of_pos_right h3 (Nat.two_pow_pos _)
theorem pad_take (B : Nat) : ∀ (k n : Nat), (pad B (k + 1) n).take k = pad B k n
  | 0, n => rfl
  | k + 1, n => by rw [pad, List.take_succ_cons, pad_take B k, pad]
theorem rd_pad (B : Nat) : ∀ (k m n : Nat), k < m → rd (pad B m n) (k : Int) = ((n / B ^ k % B : Nat) : Int)
  | 0, m + 1, n, _ => by simp [pad, rd]
  | k + 1, m + 1, n, h => by
    have := rd_pad B k m (n / B) (by omega)
    rw [Nat.div_div_eq_div_mul, Nat.mul_comm, ← Nat.pow_succ] at this
    rw [← this]
    unfold rd
    rw [Int.toNat_natCast, Int.toNat_natCast, pad, List.getD_cons_succ]
  | k, 0, n, h => absurd h (by omega)
theorem lead_dg {b n t s : Nat} (hn : (dg 4294967296 b).length = n + 1) (ht : rd (dg 4294967296 b) (n : Int) = (t : Int)) (hs : s ≤ 31) (h1 : 2147483648 ≤ t * 2 ^ s) (h2 : t * 2 ^ s < 4294967296) :
    2 ^ s * b < 4294967296 ^ (n + 1) ∧ 2147483648 ≤ 2 ^ s * b / 4294967296 ^ n ∧ 2 ^ s * b / 4294967296 ^ n < 4294967296 := by
  have hv := vl_split 4294967296 (dg 4294967296 b) n (by omega)
  rw [vl32, vl_drop_rd _ _ _ (by omega), vl_drop_out _ _ _ (by omega), ht, Int.mul_zero, Int.add_zero] at hv
  have a1 := vl_lt (B := 4294967296) (by omega) ((dig32 b).take n)
  have a0 := vl_nonneg (B := 4294967296) (by omega) ((dig32 b).take n)
  rw [List.length_take, Nat.min_eq_left (by omega)] at a1
  obtain ⟨r, hr⟩ := Int.eq_ofNat_of_zero_le a0
  rw [hr] at a1 hv
  have e0 : ((4294967296 : Int) ^ n) = ((4294967296 ^ n : Nat) : Int) := by simp
  rw [e0] at a1 hv
  obtain ⟨P, hP⟩ : ∃ P, 4294967296 ^ n = P := ⟨_, rfl⟩
  rw [hP] at a1 hv
  have hP0 : 0 < P := by rw [← hP]; exact Nat.pow_pos (by omega)
  have hb : b = r + P * t := by
    have : ((r + P * t : Nat) : Int) = (b : Int) := by rw [hv]; simp
    omega
  have hr' : r < P := by omega
  obtain ⟨C, hC⟩ : 2 ^ s ∣ 4294967296 := Nat.pow_dvd_pow (m := s) (n := 32) 2 (by omega)
  obtain ⟨Z, hZ⟩ : ∃ Z, 2 ^ s = Z := ⟨_, rfl⟩
  rw [hZ] at h1 h2 hC ⊢
  have hZ0 : 0 < Z := by rw [← hZ]; exact Nat.two_pow_pos s
  have h3 : (t + 1) * Z ≤ 4294967296 := by
    rw [hC] at h2 ⊢
    have : t < C := by
      rw [Nat.mul_comm] at h2
      exact Nat.lt_of_mul_lt_mul_left h2
    rw [Nat.mul_comm]
    exact Nat.mul_le_mul_left Z this
  have h4 : Z * b < 4294967296 * P := by
    have e1 : Z * b < Z * (P * (t + 1)) := Nat.mul_lt_mul_of_pos_left (by rw [hb, Nat.mul_add, Nat.mul_one]; omega) hZ0
    have e2 : Z * (P * (t + 1)) = (t + 1) * Z * P := by grind
    rw [e2] at e1
    exact Nat.lt_of_lt_of_le e1 (Nat.mul_le_mul_right P h3)
  have h5 : 2147483648 * P ≤ Z * b := by
    have e1 : Z * (P * t) ≤ Z * b := Nat.mul_le_mul_left Z (by omega)
    have e2 : Z * (P * t) = t * Z * P := by grind
    rw [e2] at e1
    exact Nat.le_trans (Nat.mul_le_mul_right P h1) e1
  refine ⟨?_, ?_, ?_⟩
  · rw [Nat.pow_succ, hP, Nat.mul_comm P]; exact h4
  · rw [hP, Nat.le_div_iff_mul_le hP0]; exact h5
  · rw [hP, Nat.div_lt_iff_lt_mul hP0]; exact h4
theorem top_pos {b n : Nat} (hn : (dg 4294967296 b).length = n + 1) : rd (dg 4294967296 b) (n : Int) ≠ 0 := fun h0 => by
  have hp := pow_le_of_length (B := 4294967296) (by omega) hn
  have hv := vl_split 4294967296 (dg 4294967296 b) n (by omega)
  rw [vl32, vl_drop_rd _ _ _ (by omega), vl_drop_out _ _ _ (by omega), h0, Int.mul_zero, Int.add_zero, Int.mul_zero, Int.add_zero] at hv
  have a1 := vl_lt (B := 4294967296) (by omega) ((dig32 b).take n)
  rw [List.length_take, Nat.min_eq_left (by omega), ← hv] at a1
  have e0 : ((4294967296 : Int) ^ n) = ((4294967296 ^ n : Nat) : Int) := by simp
  rw [e0] at a1
  omega
theorem div_fin {u o r : List Int} {a b s n : Nat} (hb : 0 < b) (hu : Dig 4294967296 u) (ho : Dig 4294967296 o) (hr : Dig 4294967296 r) (hul : n + 1 < u.length) (hlt : vl 4294967296 u < ((2 ^ s * b : Nat) : Int)) (hbB : 2 ^ s * b < 4294967296 ^ (n + 1))
    (hv : vl 4294967296 u + ((2 ^ s * b : Nat) : Int) * vl 4294967296 o = ((2 ^ s * a : Nat) : Int)) (h : ((2 ^ s : Nat) : Int) * vl 4294967296 r = vl 4294967296 (u.take (n + 1)) + 4294967296 ^ (n + 1) * (rd u ((n + 1 : Nat) : Int) % ((2 ^ s : Nat) : Int))) :
    vl 4294967296 o = ((a / b : Nat) : Int) ∧ vl 4294967296 r = ((a % b : Nat) : Int) := by
  have e0 : ((4294967296 : Int) ^ (n + 1)) = ((4294967296 ^ (n + 1) : Nat) : Int) := by simp
  have hz : vl 4294967296 (u.drop (n + 1)) = 0 := vl_zero_drop (by omega) hu (n + 1) (by omega) (by rw [e0]; omega)
  have hsp := vl_split 4294967296 u (n + 1) (by omega)
  rw [hz, Int.mul_zero, Int.add_zero] at hsp
  have hrd : rd u ((n + 1 : Nat) : Int) = 0 := by
    have h1 := vl_drop_rd 4294967296 u (n + 1) hul
    have h2 := vl_nonneg (B := 4294967296) (by omega) (hu.drop (n + 1 + 1))
    have h3 := hu.rd (by omega) (n + 1)
    rw [hz] at h1
    omega
  rw [hrd, Int.zero_emod, Int.mul_zero, Int.add_zero, ← hsp] at h
  obtain ⟨r', hr'⟩ := Int.eq_ofNat_of_zero_le (vl_nonneg (B := 4294967296) (by omega) hr)
  obtain ⟨o', ho'⟩ := Int.eq_ofNat_of_zero_le (vl_nonneg (B := 4294967296) (by omega) ho)
  rw [← h, hr', ho'] at hv
  rw [← h, hr'] at hlt
  rw [hr', ho']
  have hZ := Nat.two_pow_pos s
  generalize 2 ^ s = Z at *
  have hv2 : Z * r' + Z * b * o' = Z * a := by
    have : ((Z * r' + Z * b * o' : Nat) : Int) = ((Z * a : Nat) : Int) := by rw [← hv]; simp
    omega
  have hlt2 : Z * r' < Z * b := by
    have : ((Z * r' : Nat) : Int) < ((Z * b : Nat) : Int) := by simpa using hlt
    omega
  have h5 : r' + b * o' = a := by
    rw [Nat.mul_assoc, ← Nat.mul_add] at hv2
    exact Nat.eq_of_mul_eq_mul_left hZ hv2
  have h6 := (Nat.div_mod_unique hb).2 ⟨h5, Nat.lt_of_mul_lt_mul_left hlt2⟩
  rw [h6.1, h6.2]
  exact ⟨rfl, rfl⟩
theorem low_zero {u o : List Int} {a b s : Nat} (hs : s ≤ 31) (hul : 0 < u.length) (hv : vl 4294967296 u + ((2 ^ s * b : Nat) : Int) * vl 4294967296 o = ((2 ^ s * a : Nat) : Int)) : rd u 0 % ((2 ^ s : Nat) : Int) = 0 := by
  have h1 := vl_drop_rd 4294967296 u 0 hul
  rw [List.drop_zero] at h1
  obtain ⟨C, hC⟩ : 2 ^ s ∣ 4294967296 := Nat.pow_dvd_pow (m := s) (n := 32) 2 (by omega)
  have hC' : (4294967296 : Int) = ((2 ^ s : Nat) : Int) * (C : Int) := by rw [← Int.natCast_mul, ← hC]; rfl
  have e : rd u 0 = ((2 ^ s : Nat) : Int) * ((a : Int) - b * vl 4294967296 o - C * vl 4294967296 (u.drop 1)) := by
    generalize hvu : vl 4294967296 u = A at *
    generalize hvo : vl 4294967296 o = D at *
    generalize hvd : vl 4294967296 (u.drop (0 + 1)) = F at *
    rw [Int.natCast_mul, Int.natCast_mul] at hv
    rw [hC'] at h1
    generalize ((2 ^ s : Nat) : Int) = Z at *
    have h2 : rd u 0 = A - Z * C * F := by
      have : rd u ((0 : Nat) : Int) = rd u 0 := rfl
      rw [this] at h1
      omega
    rw [h2]
    grind
  rw [e]
  exact Int.mul_emod_right _ _
theorem DivMod_long (hL : LibN X) (a b : Nat) (ha : (dg 4294967296 a).length ≤ 100000000) (hb2 : 2 ≤ (dg 4294967296 b).length) (hba : b ≤ a) : Fn X 9 [nat (dg 4294967296 a), nat (dg 4294967296 b)] (.tu [nat (dg 4294967296 (a / b)), nat (dg 4294967296 (a % b)), vi .i64 0]) := by
  have hc : ¬ cmp (a : Int) (b : Int) < 0 := by unfold cmp; split <;> omega
  have hlen : (dg 4294967296 b).length ≤ (dg 4294967296 a).length := by
    rcases Nat.lt_or_ge (dg 4294967296 a).length (dg 4294967296 b).length with h | h
    · have := len_lt_of (B := 4294967296) (by omega) h; omega
    · exact h
  obtain ⟨t, ht⟩ : ∃ t : Nat, rd (dg 4294967296 b) (((dg 4294967296 b).length : Int) - 1) = (t : Int) := by
    have := (dig32 b).rd (by omega) ((dg 4294967296 b).length - 1)
    rw [show (((dg 4294967296 b).length - 1 : Nat) : Int) = ((dg 4294967296 b).length : Int) - 1 by omega] at this
    exact ⟨(rd (dg 4294967296 b) (((dg 4294967296 b).length : Int) - 1)).toNat, by omega⟩
  refine W_nat_DivMod hL.P rfl ?_
  simp (disch := omega) only [sd_t, dec_t, dec_f, i64_in, u32_in, u64_in, i64_quo, u32_quo, u64_quo, rem_in, Int.toNat_of_nonneg, go_sem, reduceCtorEq, ↓reduceIte, Nat.reduceEqDiff, Nat.reduceAdd, Nat.reduceSub, Nat.reduceMul, Nat.reduceLT, Nat.reduceLeDiff, Nat.reduceBEq, Nat.reduceBNe, Nat.reducePow, Nat.reduceDiv, Nat.reduceMod, Int.reduceAdd, Int.reduceSub, Int.reduceMul, Int.reduceLT, Int.reduceLE, Int.reduceEq, Int.reduceNe, Int.reduceNeg, Int.reduceToNat, Int.reducePow, Int.reduceDiv, Int.reduceMod, F_nat_DivMod, R_nat_DivMod]
  refine cp_of (IsZero_fn hL.P _) rfl ?_
  simp (disch := omega) only [sd_t, dec_t, dec_f, i64_in, u32_in, u64_in, i64_quo, u32_quo, u64_quo, rem_in, Int.toNat_of_nonneg, go_sem, reduceCtorEq, ↓reduceIte, Nat.reduceEqDiff, Nat.reduceAdd, Nat.reduceSub, Nat.reduceMul, Nat.reduceLT, Nat.reduceLeDiff, Nat.reduceBEq, Nat.reduceBNe, Nat.reducePow, Nat.reduceDiv, Nat.reduceMod, Int.reduceAdd, Int.reduceSub, Int.reduceMul, Int.reduceLT, Int.reduceLE, Int.reduceEq, Int.reduceNe, Int.reduceNeg, Int.reduceToNat, Int.reducePow, Int.reduceDiv, Int.reduceMod]
  refine cp_of (Cmp_fn hL.P a b (by omega)) rfl ?_
  simp (disch := omega) only [sd_t, dec_t, dec_f, i64_in, u32_in, u64_in, i64_quo, u32_quo, u64_quo, rem_in, Int.toNat_of_nonneg, go_sem, reduceCtorEq, ↓reduceIte, Nat.reduceEqDiff, Nat.reduceAdd, Nat.reduceSub, Nat.reduceMul, Nat.reduceLT, Nat.reduceLeDiff, Nat.reduceBEq, Nat.reduceBNe, Nat.reducePow, Nat.reduceDiv, Nat.reduceMod, Int.reduceAdd, Int.reduceSub, Int.reduceMul, Int.reduceLT, Int.reduceLE, Int.reduceEq, Int.reduceNe, Int.reduceNeg, Int.reduceToNat, Int.reducePow, Int.reduceDiv, Int.reduceMod, ht]
  have htl := (dig32 b).rd (by omega) ((dg 4294967296 b).length - 1)
  rw [show (((dg 4294967296 b).length - 1 : Nat) : Int) = ((dg 4294967296 b).length : Int) - 1 by omega, ht] at htl
  have ht0 : 0 < t := by
    rcases Nat.eq_zero_or_pos t with h | h
    · exfalso
      subst h
      refine top_pos (b := b) (n := (dg 4294967296 b).length - 1) (by omega) ?_
      rw [show (((dg 4294967296 b).length - 1 : Nat) : Int) = ((dg 4294967296 b).length : Int) - 1 by omega, ht]
      rfl
    · exact h
  obtain ⟨s, hs, hse, hs1, hs2⟩ := top_shift ht0 (by omega)
  have hb0 : 0 < b := by
    rcases Nat.eq_zero_or_pos b with h | h
    · subst h; rw [dg_zero] at hb2; simp at hb2
    · exact h
  have hlz := hL.lz32 (t : Int) ⟨by omega, by omega⟩
  rw [Int.toNat_natCast, hse] at hlz
  refine cp_of hlz rfl ?_
  simp (disch := omega) only [sd_t, dec_t, dec_f, i64_in, u32_in, u64_in, i64_quo, u32_quo, u64_quo, rem_in, Int.toNat_of_nonneg, go_sem, reduceCtorEq, ↓reduceIte, Nat.reduceEqDiff, Nat.reduceAdd, Nat.reduceSub, Nat.reduceMul, Nat.reduceLT, Nat.reduceLeDiff, Nat.reduceBEq, Nat.reduceBNe, Nat.reducePow, Nat.reduceDiv, Nat.reduceMod, Int.reduceAdd, Int.reduceSub, Int.reduceMul, Int.reduceLT, Int.reduceLE, Int.reduceEq, Int.reduceNe, Int.reduceNeg, Int.reduceToNat, Int.reducePow, Int.reduceDiv, Int.reduceMod]
  refine co_of (shifted_fn hL.P a s hs (by omega)) rfl rfl ?_
  simp (disch := omega) only [sd_t, dec_t, dec_f, i64_in, u32_in, u64_in, i64_quo, u32_quo, u64_quo, rem_in, Int.toNat_of_nonneg, go_sem, reduceCtorEq, ↓reduceIte, Nat.reduceEqDiff, Nat.reduceAdd, Nat.reduceSub, Nat.reduceMul, Nat.reduceLT, Nat.reduceLeDiff, Nat.reduceBEq, Nat.reduceBNe, Nat.reducePow, Nat.reduceDiv, Nat.reduceMod, Int.reduceAdd, Int.reduceSub, Int.reduceMul, Int.reduceLT, Int.reduceLE, Int.reduceEq, Int.reduceNe, Int.reduceNeg, Int.reduceToNat, Int.reducePow, Int.reduceDiv, Int.reduceMod]
  refine co_of (shifted_fn hL.P b s hs (by omega)) rfl rfl ?_
  simp (disch := omega) only [sd_t, dec_t, dec_f, i64_in, u32_in, u64_in, i64_quo, u32_quo, u64_quo, rem_in, Int.toNat_of_nonneg, go_sem, reduceCtorEq, ↓reduceIte, Nat.reduceEqDiff, Nat.reduceAdd, Nat.reduceSub, Nat.reduceMul, Nat.reduceLT, Nat.reduceLeDiff, Nat.reduceBEq, Nat.reduceBNe, Nat.reducePow, Nat.reduceDiv, Nat.reduceMod, Int.reduceAdd, Int.reduceSub, Int.reduceMul, Int.reduceLT, Int.reduceLE, Int.reduceEq, Int.reduceNe, Int.reduceNeg, Int.reduceToNat, Int.reducePow, Int.reduceDiv, Int.reduceMod, pad_length]
  obtain ⟨n, hn⟩ : ∃ n, (dg 4294967296 b).length = n + 1 := ⟨(dg 4294967296 b).length - 1, by omega⟩
  obtain ⟨m, hm⟩ : ∃ m, (dg 4294967296 a).length = m + n := ⟨(dg 4294967296 a).length - n, by omega⟩
  have htn : rd (dg 4294967296 b) (n : Int) = (t : Int) := by
    rw [← ht, hn]; congr 1; omega
  obtain ⟨l1, l2, l3⟩ := lead_dg hn htn hs hs1 hs2
  have hvl : vl 4294967296 (pad 4294967296 (n + 1) (2 ^ s * b)) = ((2 ^ s * b : Nat) : Int) := vl_pad (B := 4294967296) (by omega) (n + 1) _ l1
  have haP : a < 4294967296 ^ (m + n) := by
    have := lt_pow_length (B := 4294967296) (by omega) a
    rwa [hm] at this
  have hZ31 : 2 ^ s ≤ 2147483648 := Nat.pow_le_pow_right (n := 2) (j := 31) (by omega) hs
  have haZ : 2 ^ s * a < 2147483648 * 4294967296 ^ (m + n) := by
    have e1 : 2 ^ s * a ≤ 2147483648 * a := Nat.mul_le_mul_right a hZ31
    omega
  have haB : 2 ^ s * a < 4294967296 ^ (m + n + 1) := by
    rw [Nat.pow_succ]
    omega
  have hua : vl 4294967296 (pad 4294967296 (m + n + 1) (2 ^ s * a)) = ((2 ^ s * a : Nat) : Int) := vl_pad (B := 4294967296) (by omega) _ _ haB
  have hdrop : vl 4294967296 ((pad 4294967296 (m + n + 1) (2 ^ s * a)).drop m) < ((2 ^ s * b : Nat) : Int) := by
    have h1 := vl_split 4294967296 (pad 4294967296 (m + n + 1) (2 ^ s * a)) m (by rw [pad_length]; omega)
    have h0 := vl_nonneg (B := 4294967296) (by omega) ((dig_pad (B := 4294967296) (by omega) (m + n + 1) (2 ^ s * a)).take m)
    have h2 := vl_nonneg (B := 4294967296) (by omega) ((dig_pad (B := 4294967296) (by omega) (m + n + 1) (2 ^ s * a)).drop m)
    rw [hua] at h1
    change 0 ≤ vl 4294967296 _ at h0
    change 0 ≤ vl 4294967296 _ at h2
    obtain ⟨y, hy⟩ := Int.eq_ofNat_of_zero_le h2
    rw [hy] at h1 ⊢
    have e0 : ((4294967296 : Int) ^ m) = ((4294967296 ^ m : Nat) : Int) := by simp
    rw [e0, ← Int.natCast_mul] at h1
    have h3 : 4294967296 ^ m * y ≤ 2 ^ s * a := by omega
    have hPn : 0 < 4294967296 ^ n := Nat.pow_pos (by omega)
    have h4 : 2147483648 * 4294967296 ^ n ≤ 2 ^ s * b := (Nat.le_div_iff_mul_le hPn).1 l2
    rw [Nat.pow_add] at haZ
    have h5 : 4294967296 ^ m * y < 4294967296 ^ m * (2147483648 * 4294967296 ^ n) := by
      have e3 : 4294967296 ^ m * (2147483648 * 4294967296 ^ n) = 2147483648 * (4294967296 ^ m * 4294967296 ^ n) := Nat.mul_left_comm _ _ _
      omega
    have h6 := Nat.lt_of_mul_lt_mul_left h5
    omega
  refine div_l0 hL (pad 4294967296 (n + 1) (2 ^ s * b)) m _ ((2 ^ s * a : Nat) : Int) hvl (dig_pad (B := 4294967296) (by omega) _ _) (by rw [pad_length]; omega) (by rw [pad_length]; omega) ?_ ?_ s ?_ none none trivial m (pad 4294967296 (m + n + 1) (2 ^ s * a)) (List.replicate m 0) _ (Nat.le_refl _) (by rw [pad_length, pad_length]; omega) (by simp) (dig_pad (B := 4294967296) (by omega) _ _) (Dig.rep (by omega) _) ?_ (fun p _ => rd_rep _ _) ?_ ?_ ?_ ?_ ?_ ?_
  · rw [pad_length, Nat.add_sub_cancel, rd_pad _ _ _ _ (by omega), Nat.mod_eq_of_lt l3]
    omega
  · have : 0 < 2 ^ s * b := Nat.mul_pos (Nat.two_pow_pos s) (by
      rcases Nat.eq_zero_or_pos b with h | h
      · subst h; rw [dg_zero] at hb2; simp at hb2
      · exact h)
    omega
  · intro S u o hul hol hu ho hlt hv' he hh h108 h100 h101 h104
    rw [pad_length] at hul he
    simp only [En, Hp, and_true] at he hh
    simp (disch := omega) only [sd_t, dec_t, dec_f, i64_in, u32_in, u64_in, i64_quo, u32_quo, u64_quo, rem_in, Int.toNat_of_nonneg, go_sem, reduceCtorEq, ↓reduceIte, Nat.reduceEqDiff, Nat.reduceAdd, Nat.reduceSub, Nat.reduceMul, Nat.reduceLT, Nat.reduceLeDiff, Nat.reduceBEq, Nat.reduceBNe, Nat.reducePow, Nat.reduceDiv, Nat.reduceMod, Int.reduceAdd, Int.reduceSub, Int.reduceMul, Int.reduceLT, Int.reduceLE, Int.reduceEq, Int.reduceNe, Int.reduceNeg, Int.reduceToNat, Int.reducePow, Int.reduceDiv, Int.reduceMod, F_nat_DivMod_k1, he, hh, h108]
    refine div_l1 u (n + 1) s m hs hu (by omega) (by omega) o ?_ (n + 1) 0 (List.replicate (n + 1) 0) _ (by omega) (by simp) (Dig.rep (by omega) _) (fun p _ => rd_rep _ _) ?_ ?_ ?_ ?_ ?_ ?_
    · intro S r hrl hr hres he hh
      simp only [En, Hp, and_true] at he hh
      obtain ⟨f1, f2⟩ := div_fin (a := a) hb0 hu ho hr (by omega) hlt l1 hv' hres
      simp (disch := omega) only [sd_t, dec_t, dec_f, i64_in, u32_in, u64_in, i64_quo, u32_quo, u64_quo, rem_in, Int.toNat_of_nonneg, go_sem, reduceCtorEq, ↓reduceIte, Nat.reduceEqDiff, Nat.reduceAdd, Nat.reduceSub, Nat.reduceMul, Nat.reduceLT, Nat.reduceLeDiff, Nat.reduceBEq, Nat.reduceBNe, Nat.reducePow, Nat.reduceDiv, Nat.reduceMod, Int.reduceAdd, Int.reduceSub, Int.reduceMul, Int.reduceLT, Int.reduceLE, Int.reduceEq, Int.reduceNe, Int.reduceNeg, Int.reduceToNat, Int.reducePow, Int.reduceDiv, Int.reduceMod, F_nat_DivMod_k0, R_nat_DivMod, he, hh]
      refine cp_of (norm_nat hL.P (by omega) ho f1) ?_ ?_
      · simp only [go_sem, reduceCtorEq, ↓reduceIte, Nat.reduceEqDiff, Nat.reduceAdd, Nat.reduceSub, Nat.reduceMul, Nat.reduceLT, Nat.reduceLeDiff, Nat.reduceBEq, Nat.reduceBNe, Nat.reducePow, Nat.reduceDiv, Nat.reduceMod, Int.reduceAdd, Int.reduceSub, Int.reduceMul, Int.reduceLT, Int.reduceLE, Int.reduceEq, Int.reduceNe, Int.reduceNeg, Int.reduceToNat, Int.reducePow, Int.reduceDiv, Int.reduceMod, ← hol]
      simp (disch := omega) only [sd_t, dec_t, dec_f, i64_in, u32_in, u64_in, i64_quo, u32_quo, u64_quo, rem_in, Int.toNat_of_nonneg, go_sem, reduceCtorEq, ↓reduceIte, Nat.reduceEqDiff, Nat.reduceAdd, Nat.reduceSub, Nat.reduceMul, Nat.reduceLT, Nat.reduceLeDiff, Nat.reduceBEq, Nat.reduceBNe, Nat.reducePow, Nat.reduceDiv, Nat.reduceMod, Int.reduceAdd, Int.reduceSub, Int.reduceMul, Int.reduceLT, Int.reduceLE, Int.reduceEq, Int.reduceNe, Int.reduceNeg, Int.reduceToNat, Int.reducePow, Int.reduceDiv, Int.reduceMod, he, hh]
      refine cp_of (norm_nat hL.P (by omega) hr f2) ?_ ?_
      · simp only [go_sem, reduceCtorEq, ↓reduceIte, Nat.reduceEqDiff, Nat.reduceAdd, Nat.reduceSub, Nat.reduceMul, Nat.reduceLT, Nat.reduceLeDiff, Nat.reduceBEq, Nat.reduceBNe, Nat.reducePow, Nat.reduceDiv, Nat.reduceMod, Int.reduceAdd, Int.reduceSub, Int.reduceMul, Int.reduceLT, Int.reduceLE, Int.reduceEq, Int.reduceNe, Int.reduceNeg, Int.reduceToNat, Int.reducePow, Int.reduceDiv, Int.reduceMod, ← hrl]
      simp (disch := omega) only [sd_t, dec_t, dec_f, i64_in, u32_in, u64_in, i64_quo, u32_quo, u64_quo, rem_in, Int.toNat_of_nonneg, go_sem, reduceCtorEq, ↓reduceIte, Nat.reduceEqDiff, Nat.reduceAdd, Nat.reduceSub, Nat.reduceMul, Nat.reduceLT, Nat.reduceLeDiff, Nat.reduceBEq, Nat.reduceBNe, Nat.reducePow, Nat.reduceDiv, Nat.reduceMod, Int.reduceAdd, Int.reduceSub, Int.reduceMul, Int.reduceLT, Int.reduceLE, Int.reduceEq, Int.reduceNe, Int.reduceNeg, Int.reduceToNat, Int.reducePow, Int.reduceDiv, Int.reduceMod, he, hh]
    · unfold Hold
      rw [vl_rep, Int.mul_zero]
      rw [show ((0 : Nat) : Int) = 0 from rfl, low_zero hs (by omega) hv']
      simp [vl]
    · simp only [go_sem, reduceCtorEq, ↓reduceIte, Nat.reduceEqDiff, Nat.reduceAdd, Nat.reduceSub, Nat.reduceMul, Nat.reduceLT, Nat.reduceLeDiff, Nat.reduceBEq, Nat.reduceBNe, Nat.reducePow, Nat.reduceDiv, Nat.reduceMod, Int.reduceAdd, Int.reduceSub, Int.reduceMul, Int.reduceLT, Int.reduceLE, Int.reduceEq, Int.reduceNe, Int.reduceNeg, Int.reduceToNat, Int.reducePow, Int.reduceDiv, Int.reduceMod, he, hh, hul]
    · simp only [go_sem, reduceCtorEq, ↓reduceIte, Nat.reduceEqDiff, Nat.reduceAdd, Nat.reduceSub, Nat.reduceMul, Nat.reduceLT, Nat.reduceLeDiff, Nat.reduceBEq, Nat.reduceBNe, Nat.reducePow, Nat.reduceDiv, Nat.reduceMod, Int.reduceAdd, Int.reduceSub, Int.reduceMul, Int.reduceLT, Int.reduceLE, Int.reduceEq, Int.reduceNe, Int.reduceNeg, Int.reduceToNat, Int.reducePow, Int.reduceDiv, Int.reduceMod, he, hh]
    · intro ids; simp only [go_sem, reduceCtorEq, ↓reduceIte, Nat.reduceEqDiff, Nat.reduceAdd, Nat.reduceSub, Nat.reduceMul, Nat.reduceLT, Nat.reduceLeDiff, Nat.reduceBEq, Nat.reduceBNe, Nat.reducePow, Nat.reduceDiv, Nat.reduceMod, Int.reduceAdd, Int.reduceSub, Int.reduceMul, Int.reduceLT, Int.reduceLE, Int.reduceEq, Int.reduceNe, Int.reduceNeg, Int.reduceToNat, Int.reducePow, Int.reduceDiv, Int.reduceMod, h100]
    · intro ids; simp only [go_sem, reduceCtorEq, ↓reduceIte, Nat.reduceEqDiff, Nat.reduceAdd, Nat.reduceSub, Nat.reduceMul, Nat.reduceLT, Nat.reduceLeDiff, Nat.reduceBEq, Nat.reduceBNe, Nat.reducePow, Nat.reduceDiv, Nat.reduceMod, Int.reduceAdd, Int.reduceSub, Int.reduceMul, Int.reduceLT, Int.reduceLE, Int.reduceEq, Int.reduceNe, Int.reduceNeg, Int.reduceToNat, Int.reducePow, Int.reduceDiv, Int.reduceMod, h101]
    · intro ids; simp only [go_sem, reduceCtorEq, ↓reduceIte, Nat.reduceEqDiff, Nat.reduceAdd, Nat.reduceSub, Nat.reduceMul, Nat.reduceLT, Nat.reduceLeDiff, Nat.reduceBEq, Nat.reduceBNe, Nat.reducePow, Nat.reduceDiv, Nat.reduceMod, Int.reduceAdd, Int.reduceSub, Int.reduceMul, Int.reduceLT, Int.reduceLE, Int.reduceEq, Int.reduceNe, Int.reduceNeg, Int.reduceToNat, Int.reducePow, Int.reduceDiv, Int.reduceMod, h104]
  · exact hdrop
  · unfold Hold
    rw [vl_rep, Int.mul_zero, Int.add_zero]
    exact hua
  · simp only [go_sem, reduceCtorEq, ↓reduceIte, Nat.reduceEqDiff, Nat.reduceAdd, Nat.reduceSub, Nat.reduceMul, Nat.reduceLT, Nat.reduceLeDiff, Nat.reduceBEq, Nat.reduceBNe, Nat.reducePow, Nat.reduceDiv, Nat.reduceMod, Int.reduceAdd, Int.reduceSub, Int.reduceMul, Int.reduceLT, Int.reduceLE, Int.reduceEq, Int.reduceNe, Int.reduceNeg, Int.reduceToNat, Int.reducePow, Int.reduceDiv, Int.reduceMod, pad_length, hn, pad_take]
    refine ⟨?_, ?_, ?_⟩
    · rw [show (dg 4294967296 a).length + 1 = m + (n + 1) by omega]
    · rw [show (((dg 4294967296 a).length : Int) - ((n : Int) + 1) + 1).toNat = m by omega]
    · rw [show ((dg 4294967296 a).length : Int) - ((n : Int) + 1) = (m : Int) - 1 by omega]
  · simp only [go_sem, reduceCtorEq, ↓reduceIte, Nat.reduceEqDiff, Nat.reduceAdd, Nat.reduceSub, Nat.reduceMul, Nat.reduceLT, Nat.reduceLeDiff, Nat.reduceBEq, Nat.reduceBNe, Nat.reducePow, Nat.reduceDiv, Nat.reduceMod, Int.reduceAdd, Int.reduceSub, Int.reduceMul, Int.reduceLT, Int.reduceLE, Int.reduceEq, Int.reduceNe, Int.reduceNeg, Int.reduceToNat, Int.reducePow, Int.reduceDiv, Int.reduceMod]
    refine ⟨?_, ?_⟩
    · rw [hm]
    · rw [show (((dg 4294967296 a).length : Int) - ((dg 4294967296 b).length : Int) + 1).toNat = m by omega]
  · intro ids; simp only [go_sem, reduceCtorEq, ↓reduceIte, Nat.reduceEqDiff, Nat.reduceAdd, Nat.reduceSub, Nat.reduceMul, Nat.reduceLT, Nat.reduceLeDiff, Nat.reduceBEq, Nat.reduceBNe, Nat.reducePow, Nat.reduceDiv, Nat.reduceMod, Int.reduceAdd, Int.reduceSub, Int.reduceMul, Int.reduceLT, Int.reduceLE, Int.reduceEq, Int.reduceNe, Int.reduceNeg, Int.reduceToNat, Int.reducePow, Int.reduceDiv, Int.reduceMod]
  · intro ids; simp only [go_sem, reduceCtorEq, ↓reduceIte, Nat.reduceEqDiff, Nat.reduceAdd, Nat.reduceSub, Nat.reduceMul, Nat.reduceLT, Nat.reduceLeDiff, Nat.reduceBEq, Nat.reduceBNe, Nat.reducePow, Nat.reduceDiv, Nat.reduceMod, Int.reduceAdd, Int.reduceSub, Int.reduceMul, Int.reduceLT, Int.reduceLE, Int.reduceEq, Int.reduceNe, Int.reduceNeg, Int.reduceToNat, Int.reducePow, Int.reduceDiv, Int.reduceMod]
  · intro ids; simp only [go_sem, reduceCtorEq, ↓reduceIte, Nat.reduceEqDiff, Nat.reduceAdd, Nat.reduceSub, Nat.reduceMul, Nat.reduceLT, Nat.reduceLeDiff, Nat.reduceBEq, Nat.reduceBNe, Nat.reducePow, Nat.reduceDiv, Nat.reduceMod, Int.reduceAdd, Int.reduceSub, Int.reduceMul, Int.reduceLT, Int.reduceLE, Int.reduceEq, Int.reduceNe, Int.reduceNeg, Int.reduceToNat, Int.reducePow, Int.reduceDiv, Int.reduceMod]
end Go.Proofs.YtmjkhbjfacfmcaaGreatDoor.VX
end
section
namespace Go.Proofs.YtmjkhbjfacfmcaaGreatDoor.VX
open Go Go.RowKit Go.Proofs.YtmjkhbjfacfmcaaGreatDoor.NM Go.Proofs.YtmjkhbjfacfmcaaGreatDoor.NT IntWalk
set_option linter.unusedVariables false
set_option linter.unusedSimpArgs false
variable {X : Ctx}
theorem dg_len_le {a b : Nat} (h : a ≤ b) : (dg 4294967296 a).length ≤ (dg 4294967296 b).length := dg_length (by omega) (Nat.lt_of_le_of_lt h (lt_pow_length (by omega) b))
theorem DivMod_fn (hL : LibN X) (a b : Nat) (ha : (dg 4294967296 a).length ≤ 100000000) (hb : 0 < b) : Fn X 9 [nat (dg 4294967296 a), nat (dg 4294967296 b)] (.tu [nat (dg 4294967296 (a / b)), nat (dg 4294967296 (a % b)), vi .i64 0]) := by
  rcases Nat.lt_or_ge a b with h | h
  · exact DivMod_less hL a b (by omega) h
  · rcases Nat.lt_or_ge b 4294967296 with h1 | h1
    · exact DivMod_one hL a b (by omega) hb h h1
    · refine DivMod_long hL a b ha ?_ h
      rcases Nat.lt_or_ge (dg 4294967296 b).length 2 with h2 | h2
      · have h3 := lt_pow_length (B := 4294967296) (by omega) b
        have h4 : 4294967296 ^ (dg 4294967296 b).length ≤ 4294967296 ^ 1 := Nat.pow_le_pow_right (by omega) (by omega)
        omega
      · exact h2
theorem GCD_l0 (hL : LibN X) (N : Nat) (hN : N ≤ 100000000) {Q : Ex → St → Prop} (g : Nat) (hQ : ∀ S, En S [(2, .op 100 0 0), (4, .op 102 0 0)] → Hp S [(100, .m 26 [.v (u32s (dg 4294967296 g))]), (102, .m 26 [.v (.sl 1 [])])] → Q (.x 0) S) :
    ∀ (k x y : Nat) (S : St), y ≤ k → Nat.gcd x y = g → (dg 4294967296 x).length ≤ N → (dg 4294967296 y).length ≤ N → En S [(2, .op 100 0 0), (3, .op 101 0 0), (4, .op 102 0 0)] →
      Hp S [(100, .m 26 [.v (u32s (dg 4294967296 x))]), (101, .m 26 [.v (u32s (dg 4294967296 y))]), (102, .m 26 [.v (.sl 1 [])])] → wpC X F_nat_GCD_l0 Q S := by
  intro k
  induction k with
  | zero =>
    intro x y S hy hg hx hyl he hh
    obtain rfl : y = 0 := by omega
    obtain rfl : x = g := by simpa using hg
    rw [dg_zero] at hh
    simp only [En, Hp, and_true] at he hh
    refine wpC_round rfl ?_
    simp (disch := omega) only [sd_t, dec_t, dec_f, i64_in, u32_in, u64_in, i64_quo, u32_quo, u64_quo, rem_in, Int.toNat_of_nonneg, go_sem, reduceCtorEq, ↓reduceIte, Nat.reduceEqDiff, Nat.reduceAdd, Nat.reduceSub, Nat.reduceMul, Nat.reduceLT, Nat.reduceLeDiff, Nat.reduceBEq, Nat.reduceBNe, Nat.reducePow, Nat.reduceDiv, Nat.reduceMod, Int.reduceAdd, Int.reduceSub, Int.reduceMul, Int.reduceLT, Int.reduceLE, Int.reduceEq, Int.reduceNe, Int.reduceNeg, Int.reduceToNat, Int.reducePow, Int.reduceDiv, Int.reduceMod, F_nat_GCD_b0, he, hh]
    refine cp_of (IsZero_fn hL.P []) rfl ?_
    simp (disch := omega) only [sd_t, dec_t, dec_f, i64_in, u32_in, u64_in, i64_quo, u32_quo, u64_quo, rem_in, Int.toNat_of_nonneg, go_sem, reduceCtorEq, ↓reduceIte, Nat.reduceEqDiff, Nat.reduceAdd, Nat.reduceSub, Nat.reduceMul, Nat.reduceLT, Nat.reduceLeDiff, Nat.reduceBEq, Nat.reduceBNe, Nat.reducePow, Nat.reduceDiv, Nat.reduceMod, Int.reduceAdd, Int.reduceSub, Int.reduceMul, Int.reduceLT, Int.reduceLE, Int.reduceEq, Int.reduceNe, Int.reduceNeg, Int.reduceToNat, Int.reducePow, Int.reduceDiv, Int.reduceMod, he, hh]
    exact hQ _ (by simp only [go_sem, reduceCtorEq, ↓reduceIte, Nat.reduceEqDiff, Nat.reduceAdd, Nat.reduceSub, Nat.reduceMul, Nat.reduceLT, Nat.reduceLeDiff, Nat.reduceBEq, Nat.reduceBNe, Nat.reducePow, Nat.reduceDiv, Nat.reduceMod, Int.reduceAdd, Int.reduceSub, Int.reduceMul, Int.reduceLT, Int.reduceLE, Int.reduceEq, Int.reduceNe, Int.reduceNeg, Int.reduceToNat, Int.reducePow, Int.reduceDiv, Int.reduceMod, he, hh]) (by simp only [go_sem, reduceCtorEq, ↓reduceIte, Nat.reduceEqDiff, Nat.reduceAdd, Nat.reduceSub, Nat.reduceMul, Nat.reduceLT, Nat.reduceLeDiff, Nat.reduceBEq, Nat.reduceBNe, Nat.reducePow, Nat.reduceDiv, Nat.reduceMod, Int.reduceAdd, Int.reduceSub, Int.reduceMul, Int.reduceLT, Int.reduceLE, Int.reduceEq, Int.reduceNe, Int.reduceNeg, Int.reduceToNat, Int.reducePow, Int.reduceDiv, Int.reduceMod, he, hh])
  | succ k ih =>
    intro x y S hy hg hx hyl he hh
    simp only [En, Hp, and_true] at he hh
    refine wpC_round rfl ?_
    simp (disch := omega) only [sd_t, dec_t, dec_f, i64_in, u32_in, u64_in, i64_quo, u32_quo, u64_quo, rem_in, Int.toNat_of_nonneg, go_sem, reduceCtorEq, ↓reduceIte, Nat.reduceEqDiff, Nat.reduceAdd, Nat.reduceSub, Nat.reduceMul, Nat.reduceLT, Nat.reduceLeDiff, Nat.reduceBEq, Nat.reduceBNe, Nat.reducePow, Nat.reduceDiv, Nat.reduceMod, Int.reduceAdd, Int.reduceSub, Int.reduceMul, Int.reduceLT, Int.reduceLE, Int.reduceEq, Int.reduceNe, Int.reduceNeg, Int.reduceToNat, Int.reducePow, Int.reduceDiv, Int.reduceMod, F_nat_GCD_b0, he, hh]
    refine cp_of (IsZero_fn hL.P (dg 4294967296 y)) rfl ?_
    simp (disch := omega) only [sd_t, dec_t, dec_f, i64_in, u32_in, u64_in, i64_quo, u32_quo, u64_quo, rem_in, Int.toNat_of_nonneg, go_sem, reduceCtorEq, ↓reduceIte, Nat.reduceEqDiff, Nat.reduceAdd, Nat.reduceSub, Nat.reduceMul, Nat.reduceLT, Nat.reduceLeDiff, Nat.reduceBEq, Nat.reduceBNe, Nat.reducePow, Nat.reduceDiv, Nat.reduceMod, Int.reduceAdd, Int.reduceSub, Int.reduceMul, Int.reduceLT, Int.reduceLE, Int.reduceEq, Int.reduceNe, Int.reduceNeg, Int.reduceToNat, Int.reducePow, Int.reduceDiv, Int.reduceMod, he, hh]
    refine ⟨fun h => ?_, fun h => ?_⟩
    · have hy0 : 0 < y := by
        rcases Nat.eq_zero_or_pos y with h0 | h0
        · subst h0
          rw [dg_zero] at h
          exact absurd rfl h
        · exact h0
      refine cp_of (DivMod_fn hL x y (by omega) hy0) rfl ?_
      simp (disch := omega) only [sd_t, dec_t, dec_f, i64_in, u32_in, u64_in, i64_quo, u32_quo, u64_quo, rem_in, Int.toNat_of_nonneg, go_sem, reduceCtorEq, ↓reduceIte, Nat.reduceEqDiff, Nat.reduceAdd, Nat.reduceSub, Nat.reduceMul, Nat.reduceLT, Nat.reduceLeDiff, Nat.reduceBEq, Nat.reduceBNe, Nat.reducePow, Nat.reduceDiv, Nat.reduceMod, Int.reduceAdd, Int.reduceSub, Int.reduceMul, Int.reduceLT, Int.reduceLE, Int.reduceEq, Int.reduceNe, Int.reduceNeg, Int.reduceToNat, Int.reducePow, Int.reduceDiv, Int.reduceMod, he, hh]
      have hlt := Nat.mod_lt x hy0
      refine ih y (x % y) _ (by omega) ?_ hyl (Nat.le_trans (dg_len_le (Nat.le_of_lt hlt)) hyl) ?_ ?_
      · rw [← hg, Nat.gcd_comm, ← Nat.gcd_rec, Nat.gcd_comm]
      · simp only [go_sem, reduceCtorEq, ↓reduceIte, Nat.reduceEqDiff, Nat.reduceAdd, Nat.reduceSub, Nat.reduceMul, Nat.reduceLT, Nat.reduceLeDiff, Nat.reduceBEq, Nat.reduceBNe, Nat.reducePow, Nat.reduceDiv, Nat.reduceMod, Int.reduceAdd, Int.reduceSub, Int.reduceMul, Int.reduceLT, Int.reduceLE, Int.reduceEq, Int.reduceNe, Int.reduceNeg, Int.reduceToNat, Int.reducePow, Int.reduceDiv, Int.reduceMod, he, hh]
      · simp only [go_sem, reduceCtorEq, ↓reduceIte, Nat.reduceEqDiff, Nat.reduceAdd, Nat.reduceSub, Nat.reduceMul, Nat.reduceLT, Nat.reduceLeDiff, Nat.reduceBEq, Nat.reduceBNe, Nat.reducePow, Nat.reduceDiv, Nat.reduceMod, Int.reduceAdd, Int.reduceSub, Int.reduceMul, Int.reduceLT, Int.reduceLE, Int.reduceEq, Int.reduceNe, Int.reduceNeg, Int.reduceToNat, Int.reducePow, Int.reduceDiv, Int.reduceMod, he, hh]
    · have hy0 : y = 0 := by
        rcases Nat.eq_zero_or_pos y with h0 | h0
        · exact h0
        · have := dg_len_pos h0
          omega
      subst hy0
      obtain rfl : x = g := by simpa using hg
      exact hQ _ (by simp only [go_sem, reduceCtorEq, ↓reduceIte, Nat.reduceEqDiff, Nat.reduceAdd, Nat.reduceSub, Nat.reduceMul, Nat.reduceLT, Nat.reduceLeDiff, Nat.reduceBEq, Nat.reduceBNe, Nat.reducePow, Nat.reduceDiv, Nat.reduceMod, Int.reduceAdd, Int.reduceSub, Int.reduceMul, Int.reduceLT, Int.reduceLE, Int.reduceEq, Int.reduceNe, Int.reduceNeg, Int.reduceToNat, Int.reducePow, Int.reduceDiv, Int.reduceMod, he, hh]) (by simp only [go_sem, reduceCtorEq, ↓reduceIte, Nat.reduceEqDiff, Nat.reduceAdd, Nat.reduceSub, Nat.reduceMul, Nat.reduceLT, Nat.reduceLeDiff, Nat.reduceBEq, Nat.reduceBNe, Nat.reducePow, Nat.reduceDiv, Nat.reduceMod, Int.reduceAdd, Int.reduceSub, Int.reduceMul, Int.reduceLT, Int.reduceLE, Int.reduceEq, Int.reduceNe, Int.reduceNeg, Int.reduceToNat, Int.reducePow, Int.reduceDiv, Int.reduceMod, he, hh])
theorem GCD_fn (hL : LibN X) (a b : Nat) (ha : (dg 4294967296 a).length ≤ 100000000) (hb : (dg 4294967296 b).length ≤ 100000000) : Fn X 12 [nat (dg 4294967296 a), nat (dg 4294967296 b)] (nat (dg 4294967296 (Nat.gcd a b))) := by
  refine W_nat_GCD hL.P rfl ?_
  simp (disch := omega) only [sd_t, dec_t, dec_f, i64_in, u32_in, u64_in, i64_quo, u32_quo, u64_quo, rem_in, Int.toNat_of_nonneg, go_sem, reduceCtorEq, ↓reduceIte, Nat.reduceEqDiff, Nat.reduceAdd, Nat.reduceSub, Nat.reduceMul, Nat.reduceLT, Nat.reduceLeDiff, Nat.reduceBEq, Nat.reduceBNe, Nat.reducePow, Nat.reduceDiv, Nat.reduceMod, Int.reduceAdd, Int.reduceSub, Int.reduceMul, Int.reduceLT, Int.reduceLE, Int.reduceEq, Int.reduceNe, Int.reduceNeg, Int.reduceToNat, Int.reducePow, Int.reduceDiv, Int.reduceMod, F_nat_GCD, R_nat_GCD]
  refine GCD_l0 hL 100000000 (Nat.le_refl _) (Nat.gcd a b) (fun S he hh => ?_) b a b _ (Nat.le_refl _) rfl ha hb ?_ ?_
  · simp only [En, Hp, and_true] at he hh
    simp (disch := omega) only [sd_t, dec_t, dec_f, i64_in, u32_in, u64_in, i64_quo, u32_quo, u64_quo, rem_in, Int.toNat_of_nonneg, go_sem, reduceCtorEq, ↓reduceIte, Nat.reduceEqDiff, Nat.reduceAdd, Nat.reduceSub, Nat.reduceMul, Nat.reduceLT, Nat.reduceLeDiff, Nat.reduceBEq, Nat.reduceBNe, Nat.reducePow, Nat.reduceDiv, Nat.reduceMod, Int.reduceAdd, Int.reduceSub, Int.reduceMul, Int.reduceLT, Int.reduceLE, Int.reduceEq, Int.reduceNe, Int.reduceNeg, Int.reduceToNat, Int.reducePow, Int.reduceDiv, Int.reduceMod, F_nat_GCD_k0, he, hh]
  · simp only [go_sem, reduceCtorEq, ↓reduceIte, Nat.reduceEqDiff, Nat.reduceAdd, Nat.reduceSub, Nat.reduceMul, Nat.reduceLT, Nat.reduceLeDiff, Nat.reduceBEq, Nat.reduceBNe, Nat.reducePow, Nat.reduceDiv, Nat.reduceMod, Int.reduceAdd, Int.reduceSub, Int.reduceMul, Int.reduceLT, Int.reduceLE, Int.reduceEq, Int.reduceNe, Int.reduceNeg, Int.reduceToNat, Int.reducePow, Int.reduceDiv, Int.reduceMod]
  · simp only [go_sem, reduceCtorEq, ↓reduceIte, Nat.reduceEqDiff, Nat.reduceAdd, Nat.reduceSub, Nat.reduceMul, Nat.reduceLT, Nat.reduceLeDiff, Nat.reduceBEq, Nat.reduceBNe, Nat.reducePow, Nat.reduceDiv, Nat.reduceMod, Int.reduceAdd, Int.reduceSub, Int.reduceMul, Int.reduceLT, Int.reduceLE, Int.reduceEq, Int.reduceNe, Int.reduceNeg, Int.reduceToNat, Int.reducePow, Int.reduceDiv, Int.reduceMod]
end Go.Proofs.YtmjkhbjfacfmcaaGreatDoor.VX
end
section
namespace Go.Proofs
open Go.Shelf
def Tryz.lays240_ren : Go.Shelf.Ren := ⟨fun | 240 => 67 | 276 => 82 | n => n, fun | 0 => 0 | 4 => 4 | 9 => 9 | 20 => 20 | 70 => 81 | 72 => 84 | 164 => 114 | 37 => 82 | n => n, fun | n => n⟩
theorem Tryz.lays240 : Go.Proofs.Lays.n240 Tryz.prog Tryz.lays240_ren := {
  mixed := by kernel_rfl
  f240 := Tryz.func67.trans (congrArg some (by kernel_rfl))
  f276 := Tryz.func82.trans (congrArg some (by kernel_rfl))
  t0 := Tryz.underlying0
  a0 := Tryz.isAgg0
  z0 := Tryz.sizeOf0
  v0 := Tryz.zeroValue0
  t4 := Tryz.underlying4
  a4 := Tryz.isAgg4
  z4 := Tryz.sizeOf4
  v4 := Tryz.zeroValue4
  t9 := Tryz.underlying9
  a9 := Tryz.isAgg9
  z9 := Tryz.sizeOf9
  v9 := Tryz.zeroValue9
  t20 := Tryz.underlying20
  a20 := Tryz.isAgg20
  z20 := Tryz.sizeOf20
  v20 := Tryz.zeroValue20
  t70 := Tryz.underlying81
  a70 := Tryz.isAgg81
  z70 := Tryz.sizeOf81
  v70 := Tryz.zeroValue81
  t72 := Tryz.underlying84
  a72 := Tryz.isAgg84
  z72 := Tryz.sizeOf84
  v72 := Tryz.zeroValue84
  t164 := Tryz.underlying114
  a164 := Tryz.isAgg114
  z164 := Tryz.sizeOf114
  v164 := Tryz.zeroValue114 }
theorem Tryz.Builder_X72_240 : Go.Proofs.Builder.X72 Tryz.prog Tryz.lays240_ren := {
  sizeBuilder := by kernel_rfl
  liesBuilder := by kernel_rfl }
theorem Tryz.Builder_copyCheck_used (b : Nat) (w : World) (h0 : w.cell? ⟨b, 0, none⟩ = some (.pointer (some ⟨b, 0, none⟩))) :
    Calls Tryz.prog 67 #[.pointer (some ⟨b, 0, none⟩)] w fun e w' => e = .returned (.tuple #[]) ∧ w' = w := Any.Builder_copyCheck_used Tryz.lays240 Tryz.Builder_X72_240 b w h0
theorem Tryz.Builder_copyCheck_fresh (b : Nat) (w : World) (h0 : w.cell? ⟨b, 0, none⟩ = some (.pointer none)) (hsh : w.shape? b = some (84, 2)) (hfz : w.frozen? ⟨b, 0, none⟩ = false) :
    Calls Tryz.prog 67 #[.pointer (some ⟨b, 0, none⟩)] w fun e w' => e = .returned (.tuple #[]) ∧ w' = w.setCell ⟨b, 0, none⟩ (.pointer (some ⟨b, 0, none⟩)) := Any.Builder_copyCheck_fresh Tryz.lays240 Tryz.Builder_X72_240 b w h0 hsh hfz
end Go.Proofs
end
section
namespace Go.Proofs.YtmjkhbjfacfmcaaGreatDoor.VX
open Go Go.RowKit Go.Proofs.YtmjkhbjfacfmcaaGreatDoor.NM IntWalk
set_option linter.unusedVariables false
set_option linter.unusedSimpArgs false
variable {X : Ctx}
def bH (a : E) (l : List Int) : Heap := upd (upd noH 0 (some (.m 84 [a, .os 50 0 l.length]))) 50 (some (.p 5 1 (nums .u8 l)))
def bX (a x : E) (l : List Int) : Heap := upd (upd noH 0 (some (.m 84 [a, x]))) 50 (some (.p 5 1 (nums .u8 l)))
theorem bX_0 (a x : E) (l : List Int) : bX a x l 0 = some (.m 84 [a, x]) := by simp [bX, upd]
theorem bX_50 (a x : E) (l : List Int) : bX a x l 50 = some (.p 5 1 (nums .u8 l)) := by simp [bX, upd]
theorem bX_ne (a x : E) (l : List Int) (k : Nat) (h0 : k ≠ 0) (h1 : k ≠ 50) : bX a x l k = none := by simp [bX, upd, h0, h1, noH]
def bA (a : E) : Prop := a = .v (.sc (.pointer none)) ∨ a = .op 0 0 0
theorem bH_0 (a : E) (l : List Int) : bH a l 0 = some (.m 84 [a, .os 50 0 l.length]) := by simp [bH, upd]
theorem bH_50 (a : E) (l : List Int) : bH a l 50 = some (.p 5 1 (nums .u8 l)) := by simp [bH, upd]
theorem bH_ne (a : E) (l : List Int) (k : Nat) (h0 : k ≠ 0) (h1 : k ≠ 50) : bH a l k = none := by simp [bH, upd, h0, h1, noH]
theorem copyCheck_ctr (hP : X.P = Tryz.prog) {a : E} (ha : bA a) (l : List Int) : Ctr X 67 (bH a l) [.op 0 0 0] fun H r => H = bH (.op 0 0 0) l ∧ r = .v (.tu []) := by
  intro w ok0 φ vals G ng HR mg lt RA
  rw [hP]
  obtain ⟨v, rfl⟩ : ∃ v, vals = [v] := by
    have := RA.1
    match vals, this with
    | [v], _ => exact ⟨v, rfl⟩
  have hv := RA.2 0 _ v rfl rfl
  obtain ⟨pl, cur, g1, g2, g3, g4, g5, g6, g7⟩ := HR.blk 0 _ (bH_0 a l)
  cases hv with | op _ _ _ pl' L hl hp hj hf =>
  obtain rfl : pl = pl' := Option.some.inj (g1.symm.trans hp)
  have hadr : pl.off + (0 * pl.sz + 0) = 0 := by omega
  rw [hadr]
  obtain ⟨u, hu, ho, hr⟩ := g7 0 a rfl
  have hcell : w.cell? ⟨pl.b, 0, none⟩ = some u := by rw [cell_of_row w pl.b _ cur _ (0, 0) g5]; exact hu
  have hself : RepE w (okOf w ok0 φ (bH a l) w) φ (lnOf (bH a l)) (.op 0 0 0) (.pointer (some ⟨pl.b, 0, none⟩)) := by
    have := RepE.op (w := w) (ok := okOf w ok0 φ (bH a l) w) 0 0 0 pl L hl hp hj hf
    rwa [hadr] at this
  rcases ha with rfl | rfl
  · have hu0 := repV_sc hr
    rw [hu0] at hcell
    refine (Tryz.Builder_copyCheck_fresh pl.b w hcell (by simp [World.shape?, g5, g6]) (by simp [World.frozen?, g5])).mono ?_
    rintro e w' ⟨rfl, rfl⟩
    obtain ⟨cur', k1, k2, k3, φ', k4, k5, k6, k7⟩ := snd_setM HR (f := 0) (p := [.op 0 0 0]) (q := [.pointer (some ⟨pl.b, 0, none⟩)]) (bH_0 _ l) hp (repL_one rfl hself) (by simp)
    have e1 : cur' = cur := by
      rw [g5] at k1; cases k1; rfl
    subst e1
    have e2 : (splice cur'.toList [Value.pointer (some ⟨pl.b, 0, none⟩)] 0).toArray = cur'.setIfInBounds 0 (.pointer (some ⟨pl.b, 0, none⟩)) := by
      apply Array.ext'
      obtain ⟨c0, c1, hc⟩ : ∃ c0 c1, cur'.toList = [c0, c1] := by
        have : cur'.toList.length = 2 := by simpa using g6
        match hh : cur'.toList, this with
        | [c0, c1], _ => exact ⟨c0, c1, rfl⟩
      rw [Array.toList_setIfInBounds, hc]
      rfl
    have e3 : upd (bH (.v (.sc (.pointer none))) l) 0 (some (.m 84 (splice [.v (.sc (.pointer none)), .os 50 0 l.length] [.op 0 0 0] 0))) = bH (.op 0 0 0) l := by
      funext k
      by_cases h0 : k = 0
      · subst h0; simp [bH, upd, splice]
      · by_cases h1 : k = 50
        · subst h1; simp [bH, upd]
        · rw [upd_ne _ _ _ h0, bH_ne _ _ _ h0 h1, bH_ne _ _ _ h0 h1]
    rw [setCell_eq_setRow w pl.b 0 cur' _ (0, 0) _ g5, ← e2]
    rw [e3] at k4 k5 k6 k7
    exact ⟨_, _, _, φ', rfl, ⟨rfl, rfl⟩, k4, .v _ _ (.tu [] #[] rfl (by simp)), fun k hk hs => k7 k hk⟩
  · have hu0 : u = .pointer (some ⟨pl.b, 0, none⟩) := by
      cases hr with | op _ _ _ pl' L hl' hp' hj' hf' =>
      rw [hp] at hp'
      cases hp'
      rw [hadr]
    rw [hu0] at hcell
    refine (Tryz.Builder_copyCheck_used pl.b w hcell).mono ?_
    rintro e w' ⟨rfl, rfl⟩
    exact ⟨_, _, _, φ, rfl, ⟨rfl, rfl⟩, HR, .v _ _ (.tu [] #[] rfl (by simp)), fun k hk hs => ⟨rfl, rfl⟩⟩
theorem bld_call {f c1 c2 : Nat} {es : List V} {l l' : List Int} {a0 x : E} (a1 : E → E) {r : V} {g : Env} {h : Heap} {K : E → Env → Heap → Prop} {t : Tok3 K}
    (hc : ∀ a, bA a → Ctr X f (bH a l) (.op 0 0 0 :: es.map .v) fun H e => H = bX (a1 a) x l' ∧ e = .v r) (h1 : h c1 = some (.m 84 [a0, .os c2 0 l.length])) (h2 : h c2 = some (.p 5 1 (nums .u8 l)))
    (ha : a0 = .v (.sc (.pointer none)) ∨ a0 = .op c1 0 0) (hn : namesB2 [(0, c1), (50, c2)] [] = true) (ha1 : ∀ a, bA a → (a1 a).ids (fun i => i == 0) = true) (hx : x.ids (fun i => i == 50) = true)
    (hK : ∀ a, bA a → K (.v r) (envTr (killL [c2]) g) (backH2 [(0, c1), (50, c2)] [c2] (bX (a1 a) x l') h)) : callK X f (.op c1 0 0 :: es.map .v) g h K t := by
  have hne : c1 ≠ c2 := fun he => by
    subst he
    rw [h1] at h2
    cases h2
  have hN := namesB2_spec hn
  have k1 : toK [(0, c1), (50, c2)] c1 = some 0 := by simp [toK]
  have k2 : toK [(0, c1), (50, c2)] c2 = some 50 := by
    have : (c1 == c2) = false := by simpa using hne
    simp [toK, this]
  obtain ⟨a, ha', hren⟩ : ∃ a, bA a ∧ a0.ren (fun c => (toK [(0, c1), (50, c2)] c).getD 0) = a := by
    rcases ha with rfl | rfl
    · exact ⟨_, .inl rfl, rfl⟩
    · refine ⟨_, .inr rfl, ?_⟩
      simp [E.ren, k1]
  have e1 : lentH2 [(0, c1), (50, c2)] h = bH a l := by
    funext k
    by_cases h0 : k = 0
    · subst h0
      rw [bH_0]
      simp only [lentH2, List.find?_cons, beq_self_eq_true, h1, Option.map_some, Blk.tr, List.map_cons, List.map_nil, hren]
      simp [E.ren, k2]
    · by_cases h5 : k = 50
      · subst h5
        rw [bH_50]
        simp [lentH2, h2, Blk.tr]
      · rw [bH_ne _ _ _ h0 h5]
        have q1 : (0 == k) = false := by simpa using fun e => h0 e.symm
        have q2 : (50 == k) = false := by simpa using fun e => h5 e.symm
        simp [lentH2, q1, q2]
  have e2 : (E.op c1 0 0 :: es.map .v).map (E.ren fun c => (toK [(0, c1), (50, c2)] c).getD 0) = .op 0 0 0 :: es.map .v := by
    simp only [List.map_cons, List.map_map, E.ren, k1, Option.getD_some, List.cons.injEq, true_and]
    exact List.map_congr_left fun x _ => rfl
  refine call_of2 (lend := [(0, c1), (50, c2)]) (new := []) hn ?_ (by simp) ?_ (by rw [e1, e2]; exact hc a ha') ?_
  · intro p hp
    simp only [List.mem_cons, List.not_mem_nil, or_false] at hp
    rcases hp with rfl | rfl
    · refine ⟨_, h1, ?_⟩
      rcases ha with rfl | rfl <;> simp [Blk.ids, idsL, E.ids]
    · exact ⟨_, h2, rfl⟩
  · intro e he
    rcases List.mem_cons.1 he with rfl | he
    · simp [E.ids]
    · obtain ⟨x, _, rfl⟩ := List.mem_map.1 he
      rfl
  · rintro H1 r' ⟨rfl, rfl⟩
    refine ⟨fun k b hb => ?_, fun p hp h50 => ?_, rfl, hK a ha'⟩
    · by_cases h0 : k = 0
      · subst h0
        rw [bX_0] at hb
        cases hb
        refine ⟨⟨c1, by simp⟩, ?_⟩
        simp only [Blk.ids, idsL, Bool.and_eq_true]
        refine ⟨(a1 a).ids_imp (fun i hi => ?_) (ha1 a ha'), x.ids_imp (fun i hi => ?_) hx, trivial⟩
        · have : i = 0 := by simpa using hi
          subst this
          rw [bX_0]; rfl
        · have : i = 50 := by simpa using hi
          subst this
          rw [bX_50]; rfl
      · by_cases h5 : k = 50
        · subst h5
          rw [bX_50] at hb
          cases hb
          exact ⟨⟨c2, by simp⟩, rfl⟩
        · rw [bX_ne _ _ _ _ h0 h5] at hb; cases hb
    · simp only [List.mem_cons, List.not_mem_nil, or_false] at hp
      rcases hp with rfl | rfl
      · rw [bX_0]; rfl
      · simp at h50
theorem WriteString_ctr (hP : X.P = Tryz.prog) {a : E} (ha : bA a) (l : List Int) (s : List UInt8) (hl : l.length + s.length ≤ 140737488355328) :
    Ctr X 50 (bH a l) [.op 0 0 0, .v (.sc (.string ⟨s.toArray⟩))] fun H r => H = bX (.op 0 0 0) (.os 50 0 (l ++ bI s).length) (l ++ bI s) ∧ r = .v (.tu [.sc (.int .i64 s.length), .sc .nilIface]) := by
  refine W_strings_Builder_WriteString hP rfl ?_
  have h0 := bH_0 a l
  have h5 := bH_50 a l
  simp (disch := omega) only [sd_t, dec_t, dec_f, i64_in, u32_in, u64_in, i64_quo, u32_quo, u64_quo, rem_in, Int.toNat_of_nonneg, go_sem, reduceCtorEq, ↓reduceIte, Nat.reduceEqDiff, Nat.reduceAdd, Nat.reduceSub, Nat.reduceMul, Nat.reduceLT, Nat.reduceLeDiff, Nat.reduceBEq, Nat.reduceBNe, Nat.reducePow, Nat.reduceDiv, Nat.reduceMod, Int.reduceAdd, Int.reduceSub, Int.reduceMul, Int.reduceLT, Int.reduceLE, Int.reduceEq, Int.reduceNe, Int.reduceNeg, Int.reduceToNat, Int.reducePow, Int.reduceDiv, Int.reduceMod, F_strings_Builder_WriteString, R_strings_Builder_WriteString]
  refine bld_call (c1 := 0) (c2 := 50) (es := []) (l' := l) (fun _ => .op 0 0 0) (fun a ha => copyCheck_ctr hP ha l) h0 h5 ha rfl (fun _ _ => rfl) rfl fun _ _ => ?_
  have b0 := bX_0 (.op 0 0 0) (.os 50 0 l.length) l
  have b5 := bX_50 (.op 0 0 0) (.os 50 0 l.length) l
  simp (disch := omega) only [sd_t, dec_t, dec_f, i64_in, u32_in, u64_in, i64_quo, u32_quo, u64_quo, rem_in, Int.toNat_of_nonneg, go_sem, reduceCtorEq, ↓reduceIte, Nat.reduceEqDiff, Nat.reduceAdd, Nat.reduceSub, Nat.reduceMul, Nat.reduceLT, Nat.reduceLeDiff, Nat.reduceBEq, Nat.reduceBNe, Nat.reducePow, Nat.reduceDiv, Nat.reduceMod, Int.reduceAdd, Int.reduceSub, Int.reduceMul, Int.reduceLT, Int.reduceLE, Int.reduceEq, Int.reduceNe, Int.reduceNeg, Int.reduceToNat, Int.reducePow, Int.reduceDiv, Int.reduceMod, h0, h5, b0, b5]
  funext k
  by_cases q0 : k = 0
  · subst q0; simp [mkH, upd, bX, bI]
  · by_cases q5 : k = 50
    · subst q5; simp [mkH, upd, bX, bI]
    · rw [bX_ne _ _ _ _ q0 q5]; simp [mkH, upd, noH, q0, q5]
theorem String_ctr (hP : X.P = Tryz.prog) {a : E} (ha : bA a) (s : List UInt8) (h1 : s ≠ []) :
    Ctr X 51 (bH a (bI s)) [.op 0 0 0] fun H r => H = bX a .dead [] ∧ r = .v (.sc (.string ⟨s.toArray⟩)) := by
  refine W_strings_Builder_String hP rfl ?_
  have h0 := bH_0 a (bI s)
  have h5 := bH_50 a (bI s)
  have hl : 0 < s.length := List.length_pos_iff.2 h1
  simp (disch := omega) only [sd_t, dec_t, dec_f, i64_in, u32_in, u64_in, i64_quo, u32_quo, u64_quo, rem_in, Int.toNat_of_nonneg, go_sem, reduceCtorEq, ↓reduceIte, Nat.reduceEqDiff, Nat.reduceAdd, Nat.reduceSub, Nat.reduceMul, Nat.reduceLT, Nat.reduceLeDiff, Nat.reduceBEq, Nat.reduceBNe, Nat.reducePow, Nat.reduceDiv, Nat.reduceMod, Int.reduceAdd, Int.reduceSub, Int.reduceMul, Int.reduceLT, Int.reduceLE, Int.reduceEq, Int.reduceNe, Int.reduceNeg, Int.reduceToNat, Int.reducePow, Int.reduceDiv, Int.reduceMod, F_strings_Builder_String, R_strings_Builder_String, h0, h5]
  refine ⟨by rcases ha with rfl | rfl <;> simp [E.ids], ?_⟩
  funext k
  by_cases q0 : k = 0
  · subst q0
    rcases ha with rfl | rfl <;> simp [mkH, upd, bX, bH, heapTr, Blk.tr, E.kill, E.ids]
  · by_cases q5 : k = 50
    · subst q5; simp [mkH, upd, bX, nums]
    · rw [bX_ne _ _ _ _ q0 q5]; simp [mkH, upd, noH, q0, q5]
end Go.Proofs.YtmjkhbjfacfmcaaGreatDoor.VX
end
section
namespace Go.Proofs.YtmjkhbjfacfmcaaGreatDoor.VX
open Go Go.RowKit Go.Proofs.YtmjkhbjfacfmcaaGreatDoor.NM Go.Proofs.YtmjkhbjfacfmcaaGreatDoor.NT IntWalk
set_option linter.unusedVariables false
set_option linter.unusedSimpArgs false
variable {X : Ctx}
structure LibS (X : Ctx) : Prop extends LibN X where
  itoa : ∀ n : Int, -9223372036854775808 ≤ n → n ≤ 9223372036854775807 → Fn X 48 [vi .i64 n] (vs (Lib.itoa n))
  atoi : ∀ l : List UInt8, Digits l → l ≠ [] → l.length ≤ 18 → Fn X 47 [vs l] (.tu [vi .i64 (pv 0 l), .sc .nilIface])
  trim : ∀ l : List UInt8, l.length ≤ 140737488355328 → Fn X 46 [vs l, vs [48, 49, 50, 51, 52, 53, 54, 55, 56, 57]] (vs (Lib.trimS l [48, 49, 50, 51, 52, 53, 54, 55, 56, 57]))
  rep : ∀ (l : List UInt8) (n : Int), 0 ≤ n → l.length * n.toNat ≤ 140737488355328 → n ≤ 140737488355328 → Fn X 49 [vs l, vi .i64 n] (vs (Lib.repeatL l n.toNat))
abbrev strs (l : List (List UInt8)) : List (List V) := rws (fun s => [vs s]) l
theorem strs_snoc (l : List (List UInt8)) (s : List UInt8) : strs l ++ [[.sc (.string ⟨s.toArray⟩)]] = strs (l ++ [s]) := rws_snoc _ l s
theorem dec_lt_len {x : Nat} (h : 0 < x) : (dec (x / 1000000000)).length < (dec x).length := by
  rw [dec_step x h, List.length_append]
  have : (dec (x / 1000000000)).length ≤ (dec (x / 10)).length := by
    rw [dec_length, dec_length]
    exact dg_length (by omega) (Nat.lt_of_le_of_lt (Nat.div_le_div_left (by omega) (by omega)) (lt_pow_length (by omega) _))
  simp
  omega
theorem itoa_nat (n : Nat) : Lib.itoa (n : Int) = txt n := by
  unfold Lib.itoa
  rw [if_neg (by omega)]
  rfl
theorem Text_l0 (hL : LibS X) (n : Nat) (hn : (dec n).length ≤ 1000000000000) {Q : Ex → St → Prop} (hQ : ∀ S (p : List (List UInt8)), p.length ≤ 1000000000000 → p.reverse.flatten = dec n → En S [(3, .os 101 0 p.length)] → Hp S [(101, .p 9 1 (strs p))] → S.heap 103 = none → S.heap 104 = none → (∀ ids, okB ids (S.heap 100)) → (∀ ids, okB ids (S.heap 102)) → Q (.x 0) S) :
    ∀ (k x : Nat) (p : List (List UInt8)) (S : St), x ≤ k → p.length + (dec x).length ≤ (dec n).length → dec x ++ p.reverse.flatten = dec n → (dg 4294967296 x).length ≤ 100000000 → En S [(1, .op 100 0 0), (3, .os 101 0 p.length)] →
      Hp S [(100, .m 26 [.v (u32s (dg 4294967296 x))]), (101, .p 9 1 (strs p))] → wpC X F_nat_Text_l0 Q S := by
  intro k
  induction k with
  | zero =>
    intro x p S hx hp hd hl he hh
    obtain rfl : x = 0 := by omega
    rw [dec_zero, List.nil_append] at hd
    rw [dg_zero] at hh
    simp only [En, Hp, and_true] at he hh
    refine wpC_round rfl ?_
    simp (disch := omega) only [sd_t, dec_t, dec_f, i64_in, u32_in, u64_in, i64_quo, u32_quo, u64_quo, rem_in, Int.toNat_of_nonneg, go_sem, reduceCtorEq, ↓reduceIte, Nat.reduceEqDiff, Nat.reduceAdd, Nat.reduceSub, Nat.reduceMul, Nat.reduceLT, Nat.reduceLeDiff, Nat.reduceBEq, Nat.reduceBNe, Nat.reducePow, Nat.reduceDiv, Nat.reduceMod, Int.reduceAdd, Int.reduceSub, Int.reduceMul, Int.reduceLT, Int.reduceLE, Int.reduceEq, Int.reduceNe, Int.reduceNeg, Int.reduceToNat, Int.reducePow, Int.reduceDiv, Int.reduceMod, F_nat_Text_b0, he, hh]
    refine cp_of (IsZero_fn hL.P []) rfl ?_
    simp (disch := omega) only [sd_t, dec_t, dec_f, i64_in, u32_in, u64_in, i64_quo, u32_quo, u64_quo, rem_in, Int.toNat_of_nonneg, go_sem, reduceCtorEq, ↓reduceIte, Nat.reduceEqDiff, Nat.reduceAdd, Nat.reduceSub, Nat.reduceMul, Nat.reduceLT, Nat.reduceLeDiff, Nat.reduceBEq, Nat.reduceBNe, Nat.reducePow, Nat.reduceDiv, Nat.reduceMod, Int.reduceAdd, Int.reduceSub, Int.reduceMul, Int.reduceLT, Int.reduceLE, Int.reduceEq, Int.reduceNe, Int.reduceNeg, Int.reduceToNat, Int.reducePow, Int.reduceDiv, Int.reduceMod, he, hh]
    exact hQ _ p (by omega) hd (by simp only [go_sem, reduceCtorEq, ↓reduceIte, Nat.reduceEqDiff, Nat.reduceAdd, Nat.reduceSub, Nat.reduceMul, Nat.reduceLT, Nat.reduceLeDiff, Nat.reduceBEq, Nat.reduceBNe, Nat.reducePow, Nat.reduceDiv, Nat.reduceMod, Int.reduceAdd, Int.reduceSub, Int.reduceMul, Int.reduceLT, Int.reduceLE, Int.reduceEq, Int.reduceNe, Int.reduceNeg, Int.reduceToNat, Int.reducePow, Int.reduceDiv, Int.reduceMod, he, hh]) (by simp only [go_sem, reduceCtorEq, ↓reduceIte, Nat.reduceEqDiff, Nat.reduceAdd, Nat.reduceSub, Nat.reduceMul, Nat.reduceLT, Nat.reduceLeDiff, Nat.reduceBEq, Nat.reduceBNe, Nat.reducePow, Nat.reduceDiv, Nat.reduceMod, Int.reduceAdd, Int.reduceSub, Int.reduceMul, Int.reduceLT, Int.reduceLE, Int.reduceEq, Int.reduceNe, Int.reduceNeg, Int.reduceToNat, Int.reducePow, Int.reduceDiv, Int.reduceMod, he, hh]) (by simp only [go_sem, reduceCtorEq, ↓reduceIte, Nat.reduceEqDiff, Nat.reduceAdd, Nat.reduceSub, Nat.reduceMul, Nat.reduceLT, Nat.reduceLeDiff, Nat.reduceBEq, Nat.reduceBNe, Nat.reducePow, Nat.reduceDiv, Nat.reduceMod, Int.reduceAdd, Int.reduceSub, Int.reduceMul, Int.reduceLT, Int.reduceLE, Int.reduceEq, Int.reduceNe, Int.reduceNeg, Int.reduceToNat, Int.reducePow, Int.reduceDiv, Int.reduceMod]) (by simp only [go_sem, reduceCtorEq, ↓reduceIte, Nat.reduceEqDiff, Nat.reduceAdd, Nat.reduceSub, Nat.reduceMul, Nat.reduceLT, Nat.reduceLeDiff, Nat.reduceBEq, Nat.reduceBNe, Nat.reducePow, Nat.reduceDiv, Nat.reduceMod, Int.reduceAdd, Int.reduceSub, Int.reduceMul, Int.reduceLT, Int.reduceLE, Int.reduceEq, Int.reduceNe, Int.reduceNeg, Int.reduceToNat, Int.reducePow, Int.reduceDiv, Int.reduceMod]) (by intro ids; simp only [go_sem, reduceCtorEq, ↓reduceIte, Nat.reduceEqDiff, Nat.reduceAdd, Nat.reduceSub, Nat.reduceMul, Nat.reduceLT, Nat.reduceLeDiff, Nat.reduceBEq, Nat.reduceBNe, Nat.reducePow, Nat.reduceDiv, Nat.reduceMod, Int.reduceAdd, Int.reduceSub, Int.reduceMul, Int.reduceLT, Int.reduceLE, Int.reduceEq, Int.reduceNe, Int.reduceNeg, Int.reduceToNat, Int.reducePow, Int.reduceDiv, Int.reduceMod, hh]) (by intro ids; simp only [go_sem, reduceCtorEq, ↓reduceIte, Nat.reduceEqDiff, Nat.reduceAdd, Nat.reduceSub, Nat.reduceMul, Nat.reduceLT, Nat.reduceLeDiff, Nat.reduceBEq, Nat.reduceBNe, Nat.reducePow, Nat.reduceDiv, Nat.reduceMod, Int.reduceAdd, Int.reduceSub, Int.reduceMul, Int.reduceLT, Int.reduceLE, Int.reduceEq, Int.reduceNe, Int.reduceNeg, Int.reduceToNat, Int.reducePow, Int.reduceDiv, Int.reduceMod])
  | succ k ih =>
    intro x p S hx hp hd hl he hh
    simp only [En, Hp, and_true] at he hh
    refine wpC_round rfl ?_
    simp (disch := omega) only [sd_t, dec_t, dec_f, i64_in, u32_in, u64_in, i64_quo, u32_quo, u64_quo, rem_in, Int.toNat_of_nonneg, go_sem, reduceCtorEq, ↓reduceIte, Nat.reduceEqDiff, Nat.reduceAdd, Nat.reduceSub, Nat.reduceMul, Nat.reduceLT, Nat.reduceLeDiff, Nat.reduceBEq, Nat.reduceBNe, Nat.reducePow, Nat.reduceDiv, Nat.reduceMod, Int.reduceAdd, Int.reduceSub, Int.reduceMul, Int.reduceLT, Int.reduceLE, Int.reduceEq, Int.reduceNe, Int.reduceNeg, Int.reduceToNat, Int.reducePow, Int.reduceDiv, Int.reduceMod, F_nat_Text_b0, he, hh]
    refine cp_of (IsZero_fn hL.P (dg 4294967296 x)) rfl ?_
    simp (disch := omega) only [sd_t, dec_t, dec_f, i64_in, u32_in, u64_in, i64_quo, u32_quo, u64_quo, rem_in, Int.toNat_of_nonneg, go_sem, reduceCtorEq, ↓reduceIte, Nat.reduceEqDiff, Nat.reduceAdd, Nat.reduceSub, Nat.reduceMul, Nat.reduceLT, Nat.reduceLeDiff, Nat.reduceBEq, Nat.reduceBNe, Nat.reducePow, Nat.reduceDiv, Nat.reduceMod, Int.reduceAdd, Int.reduceSub, Int.reduceMul, Int.reduceLT, Int.reduceLE, Int.reduceEq, Int.reduceNe, Int.reduceNeg, Int.reduceToNat, Int.reducePow, Int.reduceDiv, Int.reduceMod, he, hh]
    refine ⟨fun h => ?_, fun h => ?_⟩
    · have hx0 : 0 < x := by
        rcases Nat.eq_zero_or_pos x with h0 | h0
        · subst h0
          rw [dg_zero] at h
          exact absurd rfl h
        · exact h0
      have hm := Nat.mod_lt x (show 0 < 1000000000 by omega)
      have hdl := dec_lt_len hx0
      have hlt : x / 1000000000 < 4294967296 ^ (dg 4294967296 x).length := Nat.lt_of_le_of_lt (Nat.div_le_self _ _) (lt_pow_length (B := 4294967296) (by omega) x)
      have hle := dg_len_le (Nat.div_le_self x 1000000000)
      have htx := txt_le (n := x % 1000000000) (k := 9) (by omega) (by omega)
      have hxe : x % 1000000000 + 10 ^ 9 * (x / 1000000000) = x := Nat.mod_add_div _ _
      refine cp_of (short_fn hL.toLibN x 1000000000 (by omega) (by omega) (by omega)) rfl ?_
      simp (disch := omega) only [sd_t, dec_t, dec_f, i64_in, u32_in, u64_in, i64_quo, u32_quo, u64_quo, rem_in, Int.toNat_of_nonneg, go_sem, reduceCtorEq, ↓reduceIte, Nat.reduceEqDiff, Nat.reduceAdd, Nat.reduceSub, Nat.reduceMul, Nat.reduceLT, Nat.reduceLeDiff, Nat.reduceBEq, Nat.reduceBNe, Nat.reducePow, Nat.reduceDiv, Nat.reduceMod, Int.reduceAdd, Int.reduceSub, Int.reduceMul, Int.reduceLT, Int.reduceLE, Int.reduceEq, Int.reduceNe, Int.reduceNeg, Int.reduceToNat, Int.reducePow, Int.reduceDiv, Int.reduceMod, he, hh]
      refine cp_of (norm_pad hL.P (by omega) hlt) rfl ?_
      simp (disch := omega) only [sd_t, dec_t, dec_f, i64_in, u32_in, u64_in, i64_quo, u32_quo, u64_quo, rem_in, Int.toNat_of_nonneg, go_sem, reduceCtorEq, ↓reduceIte, Nat.reduceEqDiff, Nat.reduceAdd, Nat.reduceSub, Nat.reduceMul, Nat.reduceLT, Nat.reduceLeDiff, Nat.reduceBEq, Nat.reduceBNe, Nat.reducePow, Nat.reduceDiv, Nat.reduceMod, Int.reduceAdd, Int.reduceSub, Int.reduceMul, Int.reduceLT, Int.reduceLE, Int.reduceEq, Int.reduceNe, Int.reduceNeg, Int.reduceToNat, Int.reducePow, Int.reduceDiv, Int.reduceMod, he, hh]
      refine cp_of (hL.itoa ((x % 1000000000 : Nat) : Int) (by omega) (by omega)) rfl ?_
      simp (disch := omega) only [sd_t, dec_t, dec_f, i64_in, u32_in, u64_in, i64_quo, u32_quo, u64_quo, rem_in, Int.toNat_of_nonneg, go_sem, reduceCtorEq, ↓reduceIte, Nat.reduceEqDiff, Nat.reduceAdd, Nat.reduceSub, Nat.reduceMul, Nat.reduceLT, Nat.reduceLeDiff, Nat.reduceBEq, Nat.reduceBNe, Nat.reducePow, Nat.reduceDiv, Nat.reduceMod, Int.reduceAdd, Int.reduceSub, Int.reduceMul, Int.reduceLT, Int.reduceLE, Int.reduceEq, Int.reduceNe, Int.reduceNeg, Int.reduceToNat, Int.reducePow, Int.reduceDiv, Int.reduceMod, he, hh]
      rw [itoa_nat]
      refine cp_of (IsZero_fn hL.P (dg 4294967296 (x / 1000000000))) rfl ?_
      simp (disch := omega) only [sd_t, dec_t, dec_f, i64_in, u32_in, u64_in, i64_quo, u32_quo, u64_quo, rem_in, Int.toNat_of_nonneg, go_sem, reduceCtorEq, ↓reduceIte, Nat.reduceEqDiff, Nat.reduceAdd, Nat.reduceSub, Nat.reduceMul, Nat.reduceLT, Nat.reduceLeDiff, Nat.reduceBEq, Nat.reduceBNe, Nat.reducePow, Nat.reduceDiv, Nat.reduceMod, Int.reduceAdd, Int.reduceSub, Int.reduceMul, Int.reduceLT, Int.reduceLE, Int.reduceEq, Int.reduceNe, Int.reduceNeg, Int.reduceToNat, Int.reducePow, Int.reduceDiv, Int.reduceMod, he, hh]
      refine ⟨fun hq => ?_, fun hq => ?_⟩
      · have hq0 : 0 < x / 1000000000 := by
          rcases Nat.eq_zero_or_pos (x / 1000000000) with h0 | h0
          · rw [h0, dg_zero] at hq
            exact absurd rfl hq
          · exact h0
        have hrep : Lib.repeatL [48] (9 - (txt (x % 1000000000)).length) ++ txt (x % 1000000000) = List.replicate (9 - (dec (x % 1000000000)).length) 48 ++ dec (x % 1000000000) := by
          rw [show ([48] : List UInt8) = [UInt8.ofNat 48] from rfl, rep_one]
          exact pad_txt _ 9 (by omega) (by omega)
        have hsplit := dec_split (r := x % 1000000000) (k := 9) hq0 (by omega)
        rw [hxe] at hsplit
        have hrl : (Lib.repeatL ([48] : List UInt8) (9 - (txt (x % 1000000000)).length)).length = 9 - (txt (x % 1000000000)).length := by
          rw [show ([48] : List UInt8) = [UInt8.ofNat 48] from rfl, rep_one, List.length_replicate]
        have hw : (9 - ((txt (x % 1000000000)).length : Int)) = ((9 - (txt (x % 1000000000)).length : Nat) : Int) := by omega
        rw [hw]
        refine cp_of (hL.rep [48] ((9 - (txt (x % 1000000000)).length : Nat) : Int) (by omega) (by simp; omega) (by omega)) rfl ?_
        simp (disch := omega) only [sd_t, dec_t, dec_f, i64_in, u32_in, u64_in, i64_quo, u32_quo, u64_quo, rem_in, Int.toNat_of_nonneg, go_sem, reduceCtorEq, ↓reduceIte, Nat.reduceEqDiff, Nat.reduceAdd, Nat.reduceSub, Nat.reduceMul, Nat.reduceLT, Nat.reduceLeDiff, Nat.reduceBEq, Nat.reduceBNe, Nat.reducePow, Nat.reduceDiv, Nat.reduceMod, Int.reduceAdd, Int.reduceSub, Int.reduceMul, Int.reduceLT, Int.reduceLE, Int.reduceEq, Int.reduceNe, Int.reduceNeg, Int.reduceToNat, Int.reducePow, Int.reduceDiv, Int.reduceMod, he, hh, hrl, strs_snoc]
        refine ih (x / 1000000000) (p ++ [Lib.repeatL [48] (9 - (txt (x % 1000000000)).length) ++ txt (x % 1000000000)]) _ (by have := Nat.div_lt_self hx0 (show 1 < 1000000000 by omega); omega) (by simp; omega) ?_ (by omega) ?_ ?_
        · rw [List.reverse_append, List.reverse_singleton, List.singleton_append, List.flatten_cons, hrep, ← List.append_assoc, ← hsplit]
          exact hd
        · simp only [go_sem, reduceCtorEq, ↓reduceIte, Nat.reduceEqDiff, Nat.reduceAdd, Nat.reduceSub, Nat.reduceMul, Nat.reduceLT, Nat.reduceLeDiff, Nat.reduceBEq, Nat.reduceBNe, Nat.reducePow, Nat.reduceDiv, Nat.reduceMod, Int.reduceAdd, Int.reduceSub, Int.reduceMul, Int.reduceLT, Int.reduceLE, Int.reduceEq, Int.reduceNe, Int.reduceNeg, Int.reduceToNat, Int.reducePow, Int.reduceDiv, Int.reduceMod, he, hh]
        · simp only [go_sem, reduceCtorEq, ↓reduceIte, Nat.reduceEqDiff, Nat.reduceAdd, Nat.reduceSub, Nat.reduceMul, Nat.reduceLT, Nat.reduceLeDiff, Nat.reduceBEq, Nat.reduceBNe, Nat.reducePow, Nat.reduceDiv, Nat.reduceMod, Int.reduceAdd, Int.reduceSub, Int.reduceMul, Int.reduceLT, Int.reduceLE, Int.reduceEq, Int.reduceNe, Int.reduceNeg, Int.reduceToNat, Int.reducePow, Int.reduceDiv, Int.reduceMod, he, hh]
      · have hq0 : x / 1000000000 = 0 := by
          rcases Nat.eq_zero_or_pos (x / 1000000000) with h0 | h0
          · exact h0
          · have := dg_len_pos h0
            omega
        have hr : x % 1000000000 = x := by omega
        simp (disch := omega) only [sd_t, dec_t, dec_f, i64_in, u32_in, u64_in, i64_quo, u32_quo, u64_quo, rem_in, Int.toNat_of_nonneg, go_sem, reduceCtorEq, ↓reduceIte, Nat.reduceEqDiff, Nat.reduceAdd, Nat.reduceSub, Nat.reduceMul, Nat.reduceLT, Nat.reduceLeDiff, Nat.reduceBEq, Nat.reduceBNe, Nat.reducePow, Nat.reduceDiv, Nat.reduceMod, Int.reduceAdd, Int.reduceSub, Int.reduceMul, Int.reduceLT, Int.reduceLE, Int.reduceEq, Int.reduceNe, Int.reduceNeg, Int.reduceToNat, Int.reducePow, Int.reduceDiv, Int.reduceMod, he, hh, strs_snoc]
        refine ih (x / 1000000000) (p ++ [txt (x % 1000000000)]) _ (by omega) (by simp; omega) ?_ (by omega) ?_ ?_
        · rw [List.reverse_append, List.reverse_singleton, List.singleton_append, List.flatten_cons, hq0, dec_zero, List.nil_append, hr, txt_pos x hx0]
          exact hd
        · simp only [go_sem, reduceCtorEq, ↓reduceIte, Nat.reduceEqDiff, Nat.reduceAdd, Nat.reduceSub, Nat.reduceMul, Nat.reduceLT, Nat.reduceLeDiff, Nat.reduceBEq, Nat.reduceBNe, Nat.reducePow, Nat.reduceDiv, Nat.reduceMod, Int.reduceAdd, Int.reduceSub, Int.reduceMul, Int.reduceLT, Int.reduceLE, Int.reduceEq, Int.reduceNe, Int.reduceNeg, Int.reduceToNat, Int.reducePow, Int.reduceDiv, Int.reduceMod, he, hh]
        · simp only [go_sem, reduceCtorEq, ↓reduceIte, Nat.reduceEqDiff, Nat.reduceAdd, Nat.reduceSub, Nat.reduceMul, Nat.reduceLT, Nat.reduceLeDiff, Nat.reduceBEq, Nat.reduceBNe, Nat.reducePow, Nat.reduceDiv, Nat.reduceMod, Int.reduceAdd, Int.reduceSub, Int.reduceMul, Int.reduceLT, Int.reduceLE, Int.reduceEq, Int.reduceNe, Int.reduceNeg, Int.reduceToNat, Int.reducePow, Int.reduceDiv, Int.reduceMod, he, hh]
    · have hx0 : x = 0 := by
        rcases Nat.eq_zero_or_pos x with h0 | h0
        · exact h0
        · have := dg_len_pos h0
          omega
      subst hx0
      rw [dec_zero, List.nil_append] at hd
      exact hQ _ p (by omega) hd (by simp only [go_sem, reduceCtorEq, ↓reduceIte, Nat.reduceEqDiff, Nat.reduceAdd, Nat.reduceSub, Nat.reduceMul, Nat.reduceLT, Nat.reduceLeDiff, Nat.reduceBEq, Nat.reduceBNe, Nat.reducePow, Nat.reduceDiv, Nat.reduceMod, Int.reduceAdd, Int.reduceSub, Int.reduceMul, Int.reduceLT, Int.reduceLE, Int.reduceEq, Int.reduceNe, Int.reduceNeg, Int.reduceToNat, Int.reducePow, Int.reduceDiv, Int.reduceMod, he, hh]) (by simp only [go_sem, reduceCtorEq, ↓reduceIte, Nat.reduceEqDiff, Nat.reduceAdd, Nat.reduceSub, Nat.reduceMul, Nat.reduceLT, Nat.reduceLeDiff, Nat.reduceBEq, Nat.reduceBNe, Nat.reducePow, Nat.reduceDiv, Nat.reduceMod, Int.reduceAdd, Int.reduceSub, Int.reduceMul, Int.reduceLT, Int.reduceLE, Int.reduceEq, Int.reduceNe, Int.reduceNeg, Int.reduceToNat, Int.reducePow, Int.reduceDiv, Int.reduceMod, he, hh]) (by simp only [go_sem, reduceCtorEq, ↓reduceIte, Nat.reduceEqDiff, Nat.reduceAdd, Nat.reduceSub, Nat.reduceMul, Nat.reduceLT, Nat.reduceLeDiff, Nat.reduceBEq, Nat.reduceBNe, Nat.reducePow, Nat.reduceDiv, Nat.reduceMod, Int.reduceAdd, Int.reduceSub, Int.reduceMul, Int.reduceLT, Int.reduceLE, Int.reduceEq, Int.reduceNe, Int.reduceNeg, Int.reduceToNat, Int.reducePow, Int.reduceDiv, Int.reduceMod]) (by simp only [go_sem, reduceCtorEq, ↓reduceIte, Nat.reduceEqDiff, Nat.reduceAdd, Nat.reduceSub, Nat.reduceMul, Nat.reduceLT, Nat.reduceLeDiff, Nat.reduceBEq, Nat.reduceBNe, Nat.reducePow, Nat.reduceDiv, Nat.reduceMod, Int.reduceAdd, Int.reduceSub, Int.reduceMul, Int.reduceLT, Int.reduceLE, Int.reduceEq, Int.reduceNe, Int.reduceNeg, Int.reduceToNat, Int.reducePow, Int.reduceDiv, Int.reduceMod]) (by intro ids; simp only [go_sem, reduceCtorEq, ↓reduceIte, Nat.reduceEqDiff, Nat.reduceAdd, Nat.reduceSub, Nat.reduceMul, Nat.reduceLT, Nat.reduceLeDiff, Nat.reduceBEq, Nat.reduceBNe, Nat.reducePow, Nat.reduceDiv, Nat.reduceMod, Int.reduceAdd, Int.reduceSub, Int.reduceMul, Int.reduceLT, Int.reduceLE, Int.reduceEq, Int.reduceNe, Int.reduceNeg, Int.reduceToNat, Int.reducePow, Int.reduceDiv, Int.reduceMod, hh]) (by intro ids; simp only [go_sem, reduceCtorEq, ↓reduceIte, Nat.reduceEqDiff, Nat.reduceAdd, Nat.reduceSub, Nat.reduceMul, Nat.reduceLT, Nat.reduceLeDiff, Nat.reduceBEq, Nat.reduceBNe, Nat.reducePow, Nat.reduceDiv, Nat.reduceMod, Int.reduceAdd, Int.reduceSub, Int.reduceMul, Int.reduceLT, Int.reduceLE, Int.reduceEq, Int.reduceNe, Int.reduceNeg, Int.reduceToNat, Int.reducePow, Int.reduceDiv, Int.reduceMod])
end Go.Proofs.YtmjkhbjfacfmcaaGreatDoor.VX
end
section
namespace Go.Proofs.YtmjkhbjfacfmcaaGreatDoor.VX
open Go Go.RowKit Go.Proofs.YtmjkhbjfacfmcaaGreatDoor.NM Go.Proofs.YtmjkhbjfacfmcaaGreatDoor.NT IntWalk
set_option linter.unusedVariables false
set_option linter.unusedSimpArgs false
variable {X : Ctx}
theorem flat_drop_le (p : List (List UInt8)) (j : Nat) : ((p.drop j).reverse.flatten).length ≤ p.reverse.flatten.length := by
  have e : p = p.take j ++ p.drop j := (List.take_append_drop j p).symm
  conv => rhs; rw [e, List.reverse_append, List.flatten_append, List.length_append]
  omega
theorem flat_step (p : List (List UInt8)) (j : Nat) (h : j < p.length) : (p.drop j).reverse.flatten = (p.drop (j + 1)).reverse.flatten ++ gt p j := by
  rw [List.drop_eq_getElem_cons h, List.reverse_cons, List.flatten_append, gt_nat p j h]
  simp
theorem Text_l1 (hL : LibS X) (p : List (List UInt8)) (hp : p.length ≤ 1000000000000) (hf : p.reverse.flatten.length ≤ 1000000000000) {Q : Ex → St → Prop} (hQ : ∀ S a, (a = .v (.sc (.pointer none)) ∨ a = .op 103 0 0) → En S [(7, .op 103 0 0)] →
      Hp S [(103, .m 84 [a, .os 104 0 p.reverse.flatten.length]), (104, .p 5 1 (nums .u8 (bI p.reverse.flatten)))] → Q (.x 2) S) :
    ∀ (j : Nat) (a : E) (S : St), j ≤ p.length → (a = .v (.sc (.pointer none)) ∨ a = .op 103 0 0) → En S [(3, .os 101 0 p.length), (7, .op 103 0 0), (8, i64 ((j : Int) - 1))] →
      Hp S [(101, .p 9 1 (strs p)), (103, .m 84 [a, .os 104 0 ((p.drop j).reverse.flatten).length]), (104, .p 5 1 (nums .u8 (bI (p.drop j).reverse.flatten)))] → (∀ ids, okB ids (S.heap 100)) → (∀ ids, okB ids (S.heap 102)) → wpC X F_nat_Text_l1 Q S := by
  intro j
  induction j with
  | zero =>
    intro a S hj ha he hh h100 h102
    simp only [En, Hp, and_true, List.drop_zero] at he hh
    refine wpC_round rfl ?_
    simp (disch := omega) only [sd_t, dec_t, dec_f, i64_in, u32_in, u64_in, i64_quo, u32_quo, u64_quo, rem_in, Int.toNat_of_nonneg, go_sem, reduceCtorEq, ↓reduceIte, Nat.reduceEqDiff, Nat.reduceAdd, Nat.reduceSub, Nat.reduceMul, Nat.reduceLT, Nat.reduceLeDiff, Nat.reduceBEq, Nat.reduceBNe, Nat.reducePow, Nat.reduceDiv, Nat.reduceMod, Int.reduceAdd, Int.reduceSub, Int.reduceMul, Int.reduceLT, Int.reduceLE, Int.reduceEq, Int.reduceNe, Int.reduceNeg, Int.reduceToNat, Int.reducePow, Int.reduceDiv, Int.reduceMod, F_nat_Text_b1, he, hh, h100, h102]
    rcases ha with rfl | rfl
    · simp (disch := omega) only [sd_t, dec_t, dec_f, i64_in, u32_in, u64_in, i64_quo, u32_quo, u64_quo, rem_in, Int.toNat_of_nonneg, go_sem, reduceCtorEq, ↓reduceIte, Nat.reduceEqDiff, Nat.reduceAdd, Nat.reduceSub, Nat.reduceMul, Nat.reduceLT, Nat.reduceLeDiff, Nat.reduceBEq, Nat.reduceBNe, Nat.reducePow, Nat.reduceDiv, Nat.reduceMod, Int.reduceAdd, Int.reduceSub, Int.reduceMul, Int.reduceLT, Int.reduceLE, Int.reduceEq, Int.reduceNe, Int.reduceNeg, Int.reduceToNat, Int.reducePow, Int.reduceDiv, Int.reduceMod]
      refine hQ _ _ (.inl rfl) ?_ ?_ <;> simp only [go_sem, reduceCtorEq, ↓reduceIte, Nat.reduceEqDiff, Nat.reduceAdd, Nat.reduceSub, Nat.reduceMul, Nat.reduceLT, Nat.reduceLeDiff, Nat.reduceBEq, Nat.reduceBNe, Nat.reducePow, Nat.reduceDiv, Nat.reduceMod, Int.reduceAdd, Int.reduceSub, Int.reduceMul, Int.reduceLT, Int.reduceLE, Int.reduceEq, Int.reduceNe, Int.reduceNeg, Int.reduceToNat, Int.reducePow, Int.reduceDiv, Int.reduceMod, he, hh]
    · simp (disch := omega) only [sd_t, dec_t, dec_f, i64_in, u32_in, u64_in, i64_quo, u32_quo, u64_quo, rem_in, Int.toNat_of_nonneg, go_sem, reduceCtorEq, ↓reduceIte, Nat.reduceEqDiff, Nat.reduceAdd, Nat.reduceSub, Nat.reduceMul, Nat.reduceLT, Nat.reduceLeDiff, Nat.reduceBEq, Nat.reduceBNe, Nat.reducePow, Nat.reduceDiv, Nat.reduceMod, Int.reduceAdd, Int.reduceSub, Int.reduceMul, Int.reduceLT, Int.reduceLE, Int.reduceEq, Int.reduceNe, Int.reduceNeg, Int.reduceToNat, Int.reducePow, Int.reduceDiv, Int.reduceMod]
      refine hQ _ _ (.inr rfl) ?_ ?_ <;> simp only [go_sem, reduceCtorEq, ↓reduceIte, Nat.reduceEqDiff, Nat.reduceAdd, Nat.reduceSub, Nat.reduceMul, Nat.reduceLT, Nat.reduceLeDiff, Nat.reduceBEq, Nat.reduceBNe, Nat.reducePow, Nat.reduceDiv, Nat.reduceMod, Int.reduceAdd, Int.reduceSub, Int.reduceMul, Int.reduceLT, Int.reduceLE, Int.reduceEq, Int.reduceNe, Int.reduceNeg, Int.reduceToNat, Int.reducePow, Int.reduceDiv, Int.reduceMod, he, hh]
  | succ j ih =>
    intro a S hj ha he hh h100 h102
    have hst := flat_step p j (by omega)
    have hfl := flat_drop_le p j
    rw [hst, List.length_append] at hfl
    simp only [En, Hp, and_true] at he hh
    have hha : (∀ pr : Nat → Bool, pr 103 = true → a.ids pr = true) := fun pr hpr => by
      rcases ha with rfl | rfl
      · rfl
      · exact hpr
    refine wpC_round rfl ?_
    simp (disch := omega) only [sd_t, dec_t, dec_f, i64_in, u32_in, u64_in, i64_quo, u32_quo, u64_quo, rem_in, Int.toNat_of_nonneg, go_sem, reduceCtorEq, ↓reduceIte, Nat.reduceEqDiff, Nat.reduceAdd, Nat.reduceSub, Nat.reduceMul, Nat.reduceLT, Nat.reduceLeDiff, Nat.reduceBEq, Nat.reduceBNe, Nat.reducePow, Nat.reduceDiv, Nat.reduceMod, Int.reduceAdd, Int.reduceSub, Int.reduceMul, Int.reduceLT, Int.reduceLE, Int.reduceEq, Int.reduceNe, Int.reduceNeg, Int.reduceToNat, Int.reducePow, Int.reduceDiv, Int.reduceMod, F_nat_Text_b1, he, hh, h100, h102]
    refine ⟨hha _ rfl, ?_⟩
    have q3 : mkH [100, 101, 102, 103, 104] S.heap 103 = some (.m 84 [a, .os 104 0 (bI ((p.drop (j + 1)).reverse.flatten)).length]) := by
      simp [mkH, upd, hh, bI_length]
    have q4 : mkH [100, 101, 102, 103, 104] S.heap 104 = some (.p 5 1 (nums .u8 (bI (p.drop (j + 1)).reverse.flatten))) := by
      simp [mkH, upd, hh]
    refine bld_call (c1 := 103) (c2 := 104) (es := [vs (gt p j)]) (fun _ => .op 0 0 0) (fun a ha => WriteString_ctr hL.P ha _ (gt p j) (by rw [bI_length]; omega)) q3 q4 ha rfl (fun _ _ => rfl) rfl fun _ _ => ?_
    have b0 := bX_0 (.op 0 0 0) (.os 50 0 (bI ((p.drop (j + 1)).reverse.flatten) ++ bI (gt p j)).length) (bI ((p.drop (j + 1)).reverse.flatten) ++ bI (gt p j))
    have b5 := bX_50 (.op 0 0 0) (.os 50 0 (bI ((p.drop (j + 1)).reverse.flatten) ++ bI (gt p j)).length) (bI ((p.drop (j + 1)).reverse.flatten) ++ bI (gt p j))
    simp (disch := omega) only [sd_t, dec_t, dec_f, i64_in, u32_in, u64_in, i64_quo, u32_quo, u64_quo, rem_in, Int.toNat_of_nonneg, go_sem, reduceCtorEq, ↓reduceIte, Nat.reduceEqDiff, Nat.reduceAdd, Nat.reduceSub, Nat.reduceMul, Nat.reduceLT, Nat.reduceLeDiff, Nat.reduceBEq, Nat.reduceBNe, Nat.reducePow, Nat.reduceDiv, Nat.reduceMod, Int.reduceAdd, Int.reduceSub, Int.reduceMul, Int.reduceLT, Int.reduceLE, Int.reduceEq, Int.reduceNe, Int.reduceNeg, Int.reduceToNat, Int.reducePow, Int.reduceDiv, Int.reduceMod, he, hh]
    refine ih (.op 103 0 0) _ (by omega) (.inr rfl) ?_ ?_ ?_ ?_
    · simp only [go_sem, reduceCtorEq, ↓reduceIte, Nat.reduceEqDiff, Nat.reduceAdd, Nat.reduceSub, Nat.reduceMul, Nat.reduceLT, Nat.reduceLeDiff, Nat.reduceBEq, Nat.reduceBNe, Nat.reducePow, Nat.reduceDiv, Nat.reduceMod, Int.reduceAdd, Int.reduceSub, Int.reduceMul, Int.reduceLT, Int.reduceLE, Int.reduceEq, Int.reduceNe, Int.reduceNeg, Int.reduceToNat, Int.reducePow, Int.reduceDiv, Int.reduceMod, he, hh]
    · simp only [go_sem, reduceCtorEq, ↓reduceIte, Nat.reduceEqDiff, Nat.reduceAdd, Nat.reduceSub, Nat.reduceMul, Nat.reduceLT, Nat.reduceLeDiff, Nat.reduceBEq, Nat.reduceBNe, Nat.reducePow, Nat.reduceDiv, Nat.reduceMod, Int.reduceAdd, Int.reduceSub, Int.reduceMul, Int.reduceLT, Int.reduceLE, Int.reduceEq, Int.reduceNe, Int.reduceNeg, Int.reduceToNat, Int.reducePow, Int.reduceDiv, Int.reduceMod, he, hh, bX_0, bX_50, hst, bI_app]
    · intro ids
      simp only [go_sem, reduceCtorEq, ↓reduceIte, Nat.reduceEqDiff, Nat.reduceAdd, Nat.reduceSub, Nat.reduceMul, Nat.reduceLT, Nat.reduceLeDiff, Nat.reduceBEq, Nat.reduceBNe, Nat.reducePow, Nat.reduceDiv, Nat.reduceMod, Int.reduceAdd, Int.reduceSub, Int.reduceMul, Int.reduceLT, Int.reduceLE, Int.reduceEq, Int.reduceNe, Int.reduceNeg, Int.reduceToNat, Int.reducePow, Int.reduceDiv, Int.reduceMod, he, hh]
      exact okB_kill (h100 ids)
    · intro ids
      simp only [go_sem, reduceCtorEq, ↓reduceIte, Nat.reduceEqDiff, Nat.reduceAdd, Nat.reduceSub, Nat.reduceMul, Nat.reduceLT, Nat.reduceLeDiff, Nat.reduceBEq, Nat.reduceBNe, Nat.reducePow, Nat.reduceDiv, Nat.reduceMod, Int.reduceAdd, Int.reduceSub, Int.reduceMul, Int.reduceLT, Int.reduceLE, Int.reduceEq, Int.reduceNe, Int.reduceNeg, Int.reduceToNat, Int.reducePow, Int.reduceDiv, Int.reduceMod, he, hh]
      exact okB_kill (h102 ids)
theorem Text_fn (hL : LibS X) (n : Nat) (hl : (dg 4294967296 n).length ≤ 100000000) : Fn X 28 [nat (dg 4294967296 n)] (vs (txt n)) := by
  rcases Nat.eq_zero_or_pos n with h0 | h0
  · subst h0
    rw [dg_zero, txt_zero]
    refine W_nat_Text hL.P rfl ?_
    simp (disch := omega) only [sd_t, dec_t, dec_f, i64_in, u32_in, u64_in, i64_quo, u32_quo, u64_quo, rem_in, Int.toNat_of_nonneg, go_sem, reduceCtorEq, ↓reduceIte, Nat.reduceEqDiff, Nat.reduceAdd, Nat.reduceSub, Nat.reduceMul, Nat.reduceLT, Nat.reduceLeDiff, Nat.reduceBEq, Nat.reduceBNe, Nat.reducePow, Nat.reduceDiv, Nat.reduceMod, Int.reduceAdd, Int.reduceSub, Int.reduceMul, Int.reduceLT, Int.reduceLE, Int.reduceEq, Int.reduceNe, Int.reduceNeg, Int.reduceToNat, Int.reducePow, Int.reduceDiv, Int.reduceMod, F_nat_Text, R_nat_Text]
    refine cp_of (IsZero_fn hL.P []) rfl ?_
    simp (disch := omega) only [sd_t, dec_t, dec_f, i64_in, u32_in, u64_in, i64_quo, u32_quo, u64_quo, rem_in, Int.toNat_of_nonneg, go_sem, reduceCtorEq, ↓reduceIte, Nat.reduceEqDiff, Nat.reduceAdd, Nat.reduceSub, Nat.reduceMul, Nat.reduceLT, Nat.reduceLeDiff, Nat.reduceBEq, Nat.reduceBNe, Nat.reducePow, Nat.reduceDiv, Nat.reduceMod, Int.reduceAdd, Int.reduceSub, Int.reduceMul, Int.reduceLT, Int.reduceLE, Int.reduceEq, Int.reduceNe, Int.reduceNeg, Int.reduceToNat, Int.reducePow, Int.reduceDiv, Int.reduceMod]
  · have hlen := dg_len_pos h0
    have hdl : (dec n).length ≤ 1000000000 := by
      rw [dec_length]
      refine Nat.le_trans (dg_length (B := 10) (k := 10 * (dg 4294967296 n).length) (by omega) ?_) (by omega)
      rw [Nat.pow_mul]
      exact Nat.lt_of_lt_of_le (lt_pow_length (B := 4294967296) (by omega) n) (Nat.pow_le_pow_left (by omega) _)
    have hd0 : dec n ≠ [] := fun he => by
      obtain ⟨c, l, h, _⟩ := dec_head n h0
      rw [he] at h; cases h
    rw [txt_pos n h0]
    refine W_nat_Text hL.P rfl ?_
    simp (disch := omega) only [sd_t, dec_t, dec_f, i64_in, u32_in, u64_in, i64_quo, u32_quo, u64_quo, rem_in, Int.toNat_of_nonneg, go_sem, reduceCtorEq, ↓reduceIte, Nat.reduceEqDiff, Nat.reduceAdd, Nat.reduceSub, Nat.reduceMul, Nat.reduceLT, Nat.reduceLeDiff, Nat.reduceBEq, Nat.reduceBNe, Nat.reducePow, Nat.reduceDiv, Nat.reduceMod, Int.reduceAdd, Int.reduceSub, Int.reduceMul, Int.reduceLT, Int.reduceLE, Int.reduceEq, Int.reduceNe, Int.reduceNeg, Int.reduceToNat, Int.reducePow, Int.reduceDiv, Int.reduceMod, F_nat_Text, R_nat_Text]
    refine cp_of (IsZero_fn hL.P (dg 4294967296 n)) rfl ?_
    simp (disch := omega) only [sd_t, dec_t, dec_f, i64_in, u32_in, u64_in, i64_quo, u32_quo, u64_quo, rem_in, Int.toNat_of_nonneg, go_sem, reduceCtorEq, ↓reduceIte, Nat.reduceEqDiff, Nat.reduceAdd, Nat.reduceSub, Nat.reduceMul, Nat.reduceLT, Nat.reduceLeDiff, Nat.reduceBEq, Nat.reduceBNe, Nat.reducePow, Nat.reduceDiv, Nat.reduceMod, Int.reduceAdd, Int.reduceSub, Int.reduceMul, Int.reduceLT, Int.reduceLE, Int.reduceEq, Int.reduceNe, Int.reduceNeg, Int.reduceToNat, Int.reducePow, Int.reduceDiv, Int.reduceMod]
    refine Text_l0 hL n (by omega) ?_ n n [] _ (Nat.le_refl _) (by simp) (by simp) hl ?_ ?_
    · intro S p hp hf he hh h103 h104 h100 h102
      simp only [En, Hp, and_true] at he hh
      simp (disch := omega) only [sd_t, dec_t, dec_f, i64_in, u32_in, u64_in, i64_quo, u32_quo, u64_quo, rem_in, Int.toNat_of_nonneg, go_sem, reduceCtorEq, ↓reduceIte, Nat.reduceEqDiff, Nat.reduceAdd, Nat.reduceSub, Nat.reduceMul, Nat.reduceLT, Nat.reduceLeDiff, Nat.reduceBEq, Nat.reduceBNe, Nat.reducePow, Nat.reduceDiv, Nat.reduceMod, Int.reduceAdd, Int.reduceSub, Int.reduceMul, Int.reduceLT, Int.reduceLE, Int.reduceEq, Int.reduceNe, Int.reduceNeg, Int.reduceToNat, Int.reducePow, Int.reduceDiv, Int.reduceMod, F_nat_Text_k1, he, hh, h103, h104]
      refine Text_l1 hL p hp (by rw [hf]; omega) ?_ p.length (.v (.sc (.pointer none))) _ (Nat.le_refl _) (.inl rfl) ?_ ?_ ?_ ?_
      · intro S a ha he hh
        simp only [En, Hp, and_true] at he hh
        rw [hf] at hh
        simp (disch := omega) only [sd_t, dec_t, dec_f, i64_in, u32_in, u64_in, i64_quo, u32_quo, u64_quo, rem_in, Int.toNat_of_nonneg, go_sem, reduceCtorEq, ↓reduceIte, Nat.reduceEqDiff, Nat.reduceAdd, Nat.reduceSub, Nat.reduceMul, Nat.reduceLT, Nat.reduceLeDiff, Nat.reduceBEq, Nat.reduceBNe, Nat.reducePow, Nat.reduceDiv, Nat.reduceMod, Int.reduceAdd, Int.reduceSub, Int.reduceMul, Int.reduceLT, Int.reduceLE, Int.reduceEq, Int.reduceNe, Int.reduceNeg, Int.reduceToNat, Int.reducePow, Int.reduceDiv, Int.reduceMod, F_nat_Text_k0, he, hh]
        have q3 : S.heap 103 = some (.m 84 [a, .os 104 0 (bI (dec n)).length]) := by rw [hh.1, bI_length]
        refine bld_call (c1 := 103) (c2 := 104) (es := []) (fun a => a) (fun a ha => String_ctr hL.P ha (dec n) hd0) q3 hh.2 ha rfl (fun a ha => by rcases ha with rfl | rfl <;> rfl) rfl fun _ _ => ?_
        simp (disch := omega) only [sd_t, dec_t, dec_f, i64_in, u32_in, u64_in, i64_quo, u32_quo, u64_quo, rem_in, Int.toNat_of_nonneg, go_sem, reduceCtorEq, ↓reduceIte, Nat.reduceEqDiff, Nat.reduceAdd, Nat.reduceSub, Nat.reduceMul, Nat.reduceLT, Nat.reduceLeDiff, Nat.reduceBEq, Nat.reduceBNe, Nat.reducePow, Nat.reduceDiv, Nat.reduceMod, Int.reduceAdd, Int.reduceSub, Int.reduceMul, Int.reduceLT, Int.reduceLE, Int.reduceEq, Int.reduceNe, Int.reduceNeg, Int.reduceToNat, Int.reducePow, Int.reduceDiv, Int.reduceMod, he, hh]
      · simp only [go_sem, reduceCtorEq, ↓reduceIte, Nat.reduceEqDiff, Nat.reduceAdd, Nat.reduceSub, Nat.reduceMul, Nat.reduceLT, Nat.reduceLeDiff, Nat.reduceBEq, Nat.reduceBNe, Nat.reducePow, Nat.reduceDiv, Nat.reduceMod, Int.reduceAdd, Int.reduceSub, Int.reduceMul, Int.reduceLT, Int.reduceLE, Int.reduceEq, Int.reduceNe, Int.reduceNeg, Int.reduceToNat, Int.reducePow, Int.reduceDiv, Int.reduceMod, he, hh]
      · simp only [go_sem, reduceCtorEq, ↓reduceIte, Nat.reduceEqDiff, Nat.reduceAdd, Nat.reduceSub, Nat.reduceMul, Nat.reduceLT, Nat.reduceLeDiff, Nat.reduceBEq, Nat.reduceBNe, Nat.reducePow, Nat.reduceDiv, Nat.reduceMod, Int.reduceAdd, Int.reduceSub, Int.reduceMul, Int.reduceLT, Int.reduceLE, Int.reduceEq, Int.reduceNe, Int.reduceNeg, Int.reduceToNat, Int.reducePow, Int.reduceDiv, Int.reduceMod, he, hh, List.drop_length]
        refine ⟨rfl, rfl⟩
      · intro ids
        simp only [go_sem, reduceCtorEq, ↓reduceIte, Nat.reduceEqDiff, Nat.reduceAdd, Nat.reduceSub, Nat.reduceMul, Nat.reduceLT, Nat.reduceLeDiff, Nat.reduceBEq, Nat.reduceBNe, Nat.reducePow, Nat.reduceDiv, Nat.reduceMod, Int.reduceAdd, Int.reduceSub, Int.reduceMul, Int.reduceLT, Int.reduceLE, Int.reduceEq, Int.reduceNe, Int.reduceNeg, Int.reduceToNat, Int.reducePow, Int.reduceDiv, Int.reduceMod, he, hh]
        exact h100 ids
      · intro ids
        simp only [go_sem, reduceCtorEq, ↓reduceIte, Nat.reduceEqDiff, Nat.reduceAdd, Nat.reduceSub, Nat.reduceMul, Nat.reduceLT, Nat.reduceLeDiff, Nat.reduceBEq, Nat.reduceBNe, Nat.reducePow, Nat.reduceDiv, Nat.reduceMod, Int.reduceAdd, Int.reduceSub, Int.reduceMul, Int.reduceLT, Int.reduceLE, Int.reduceEq, Int.reduceNe, Int.reduceNeg, Int.reduceToNat, Int.reducePow, Int.reduceDiv, Int.reduceMod, he, hh]
        exact h102 ids
    · simp only [go_sem, reduceCtorEq, ↓reduceIte, Nat.reduceEqDiff, Nat.reduceAdd, Nat.reduceSub, Nat.reduceMul, Nat.reduceLT, Nat.reduceLeDiff, Nat.reduceBEq, Nat.reduceBNe, Nat.reducePow, Nat.reduceDiv, Nat.reduceMod, Int.reduceAdd, Int.reduceSub, Int.reduceMul, Int.reduceLT, Int.reduceLE, Int.reduceEq, Int.reduceNe, Int.reduceNeg, Int.reduceToNat, Int.reducePow, Int.reduceDiv, Int.reduceMod]
    · simp only [go_sem, reduceCtorEq, ↓reduceIte, Nat.reduceEqDiff, Nat.reduceAdd, Nat.reduceSub, Nat.reduceMul, Nat.reduceLT, Nat.reduceLeDiff, Nat.reduceBEq, Nat.reduceBNe, Nat.reducePow, Nat.reduceDiv, Nat.reduceMod, Int.reduceAdd, Int.reduceSub, Int.reduceMul, Int.reduceLT, Int.reduceLE, Int.reduceEq, Int.reduceNe, Int.reduceNeg, Int.reduceToNat, Int.reducePow, Int.reduceDiv, Int.reduceMod]
      rfl
end Go.Proofs.YtmjkhbjfacfmcaaGreatDoor.VX
end
section
namespace Go.Proofs.YtmjkhbjfacfmcaaGreatDoor.VX
open Go Go.RowKit Go.Proofs.YtmjkhbjfacfmcaaGreatDoor.NM Go.Proofs.YtmjkhbjfacfmcaaGreatDoor.NT IntWalk
set_option linter.unusedVariables false
set_option linter.unusedSimpArgs false
variable {X : Ctx}
theorem pv_ge (a : Nat) (l : List UInt8) : a ≤ pv a l := by
  rw [pv_acc]
  have : 0 < 10 ^ l.length := Nat.pow_pos (by omega)
  have := Nat.le_mul_of_pos_right a this
  omega
theorem Parse_l0 (hL : LibS X) (m : Nat) (hm : (dg 4294967296 m).length ≤ 1000) {Q : Ex → St → Prop} (hQ : ∀ S, En S [(2, .op 100 0 0), (4, .op 101 0 0)] → Hp S [(100, .m 26 [.v (.sl 1 [])]), (101, .m 26 [.v (u32s (dg 4294967296 m))])] → Q (.x 0) S) :
    ∀ (k : Nat) (s : List UInt8) (a : Nat) (S : St), s.length ≤ k → s.length ≤ 1000 → Digits s → pv a s = m → (a = 0 ∨ s.length % 9 = 0) → En S [(0, .v (vs s)), (2, .op 100 0 0), (4, .op 101 0 0)] →
      Hp S [(100, .m 26 [.v (.sl 1 [])]), (101, .m 26 [.v (u32s (dg 4294967296 a))])] → wpC X F_nat_Parse_l0 Q S := by
  intro k
  induction k with
  | zero =>
    intro s a S hk hs hd hv h9 he hh
    obtain rfl : s = [] := List.eq_nil_of_length_eq_zero (by omega)
    rw [pv_nil] at hv
    subst hv
    simp only [En, Hp, and_true] at he hh
    refine wpC_round rfl ?_
    simp (disch := omega) only [sd_t, dec_t, dec_f, i64_in, u32_in, u64_in, i64_quo, u32_quo, u64_quo, rem_in, Int.toNat_of_nonneg, go_sem, reduceCtorEq, ↓reduceIte, Nat.reduceEqDiff, Nat.reduceAdd, Nat.reduceSub, Nat.reduceMul, Nat.reduceLT, Nat.reduceLeDiff, Nat.reduceBEq, Nat.reduceBNe, Nat.reducePow, Nat.reduceDiv, Nat.reduceMod, Int.reduceAdd, Int.reduceSub, Int.reduceMul, Int.reduceLT, Int.reduceLE, Int.reduceEq, Int.reduceNe, Int.reduceNeg, Int.reduceToNat, Int.reducePow, Int.reduceDiv, Int.reduceMod, F_nat_Parse_b0, he, hh]
    exact hQ _ (by simp only [go_sem, reduceCtorEq, ↓reduceIte, Nat.reduceEqDiff, Nat.reduceAdd, Nat.reduceSub, Nat.reduceMul, Nat.reduceLT, Nat.reduceLeDiff, Nat.reduceBEq, Nat.reduceBNe, Nat.reducePow, Nat.reduceDiv, Nat.reduceMod, Int.reduceAdd, Int.reduceSub, Int.reduceMul, Int.reduceLT, Int.reduceLE, Int.reduceEq, Int.reduceNe, Int.reduceNeg, Int.reduceToNat, Int.reducePow, Int.reduceDiv, Int.reduceMod, he, hh]) (by simp only [go_sem, reduceCtorEq, ↓reduceIte, Nat.reduceEqDiff, Nat.reduceAdd, Nat.reduceSub, Nat.reduceMul, Nat.reduceLT, Nat.reduceLeDiff, Nat.reduceBEq, Nat.reduceBNe, Nat.reducePow, Nat.reduceDiv, Nat.reduceMod, Int.reduceAdd, Int.reduceSub, Int.reduceMul, Int.reduceLT, Int.reduceLE, Int.reduceEq, Int.reduceNe, Int.reduceNeg, Int.reduceToNat, Int.reducePow, Int.reduceDiv, Int.reduceMod, he, hh])
  | succ k ih =>
    intro s a S hk hs hd hv h9 he hh
    simp only [En, Hp, and_true] at he hh
    rcases Nat.eq_zero_or_pos s.length with h0 | hpos
    · obtain rfl : s = [] := List.eq_nil_of_length_eq_zero h0
      rw [pv_nil] at hv
      subst hv
      refine wpC_round rfl ?_
      simp (disch := omega) only [sd_t, dec_t, dec_f, i64_in, u32_in, u64_in, i64_quo, u32_quo, u64_quo, rem_in, Int.toNat_of_nonneg, go_sem, reduceCtorEq, ↓reduceIte, Nat.reduceEqDiff, Nat.reduceAdd, Nat.reduceSub, Nat.reduceMul, Nat.reduceLT, Nat.reduceLeDiff, Nat.reduceBEq, Nat.reduceBNe, Nat.reducePow, Nat.reduceDiv, Nat.reduceMod, Int.reduceAdd, Int.reduceSub, Int.reduceMul, Int.reduceLT, Int.reduceLE, Int.reduceEq, Int.reduceNe, Int.reduceNeg, Int.reduceToNat, Int.reducePow, Int.reduceDiv, Int.reduceMod, F_nat_Parse_b0, he, hh]
      exact hQ _ (by simp only [go_sem, reduceCtorEq, ↓reduceIte, Nat.reduceEqDiff, Nat.reduceAdd, Nat.reduceSub, Nat.reduceMul, Nat.reduceLT, Nat.reduceLeDiff, Nat.reduceBEq, Nat.reduceBNe, Nat.reducePow, Nat.reduceDiv, Nat.reduceMod, Int.reduceAdd, Int.reduceSub, Int.reduceMul, Int.reduceLT, Int.reduceLE, Int.reduceEq, Int.reduceNe, Int.reduceNeg, Int.reduceToNat, Int.reducePow, Int.reduceDiv, Int.reduceMod, he, hh]) (by simp only [go_sem, reduceCtorEq, ↓reduceIte, Nat.reduceEqDiff, Nat.reduceAdd, Nat.reduceSub, Nat.reduceMul, Nat.reduceLT, Nat.reduceLeDiff, Nat.reduceBEq, Nat.reduceBNe, Nat.reducePow, Nat.reduceDiv, Nat.reduceMod, Int.reduceAdd, Int.reduceSub, Int.reduceMul, Int.reduceLT, Int.reduceLE, Int.reduceEq, Int.reduceNe, Int.reduceNeg, Int.reduceToNat, Int.reducePow, Int.reduceDiv, Int.reduceMod, he, hh])
    · obtain ⟨j, hj⟩ : ∃ j : Nat, (s.length - 1) % 9 + 1 = j := ⟨_, rfl⟩
      have hji : ((s.length : Int) - 1) % 9 + 1 = (j : Int) := by omega
      have hj1 : 1 ≤ j ∧ j ≤ 9 ∧ j ≤ s.length := by omega
      have hdt : Digits (s.take j) := hd.take j
      have hne : s.take j ≠ [] := fun he => by
        have := congrArg List.length he
        rw [List.length_take, Nat.min_eq_left hj1.2.2] at this
        simp at this
        omega
      have hlt : (s.take j).length = j := by rw [List.length_take, Nat.min_eq_left hj1.2.2]
      have hn := pv_lt hdt
      rw [hlt] at hn
      have h10 : 10 ^ j ≤ 10 ^ 9 := Nat.pow_le_pow_right (by omega) hj1.2.1
      obtain ⟨n, hne'⟩ : ∃ n, pv 0 (s.take j) = n := ⟨_, rfl⟩
      rw [hne'] at hn
      have hv' : pv (a * 1000000000 + n) (s.drop j) = m := by
        rw [← hv]
        conv => rhs; rw [← List.take_append_drop j s, pv_append, pv_acc a, hlt, hne']
        rcases h9 with h9 | h9
        · subst h9; simp
        · have : j = 9 := by omega
          subst this
          rfl
      have hge := pv_ge (a * 1000000000 + n) (s.drop j)
      rw [hv'] at hge
      have hla := dg_len_le (Nat.le_trans (Nat.le_trans (Nat.le_mul_of_pos_right a (by omega)) (Nat.le_add_right _ _)) hge)
      have hlb := dg_len_le (Nat.le_trans (Nat.le_add_right _ _) hge)
      have hlc := dg_len_le (Nat.le_trans (Nat.le_add_left _ _) hge)
      have hat := hL.atoi (s.take j) hdt hne (by rw [hlt]; omega)
      rw [hne'] at hat
      refine wpC_round rfl ?_
      simp (disch := omega) only [sd_t, dec_t, dec_f, i64_in, u32_in, u64_in, i64_quo, u32_quo, u64_quo, rem_in, Int.toNat_of_nonneg, go_sem, reduceCtorEq, ↓reduceIte, Nat.reduceEqDiff, Nat.reduceAdd, Nat.reduceSub, Nat.reduceMul, Nat.reduceLT, Nat.reduceLeDiff, Nat.reduceBEq, Nat.reduceBNe, Nat.reducePow, Nat.reduceDiv, Nat.reduceMod, Int.reduceAdd, Int.reduceSub, Int.reduceMul, Int.reduceLT, Int.reduceLE, Int.reduceEq, Int.reduceNe, Int.reduceNeg, Int.reduceToNat, Int.reducePow, Int.reduceDiv, Int.reduceMod, F_nat_Parse_b0, he, hh, hji]
      refine cp_of (hat) rfl ?_
      simp (disch := omega) only [sd_t, dec_t, dec_f, i64_in, u32_in, u64_in, i64_quo, u32_quo, u64_quo, rem_in, Int.toNat_of_nonneg, go_sem, reduceCtorEq, ↓reduceIte, Nat.reduceEqDiff, Nat.reduceAdd, Nat.reduceSub, Nat.reduceMul, Nat.reduceLT, Nat.reduceLeDiff, Nat.reduceBEq, Nat.reduceBNe, Nat.reducePow, Nat.reduceDiv, Nat.reduceMod, Int.reduceAdd, Int.reduceSub, Int.reduceMul, Int.reduceLT, Int.reduceLE, Int.reduceEq, Int.reduceNe, Int.reduceNeg, Int.reduceToNat, Int.reducePow, Int.reduceDiv, Int.reduceMod, he, hh]
      have hof := Of_fn hL.P 1000000000 (by omega)
      rw [show ((1000000000 : Nat) : Int) = 1000000000 by omega] at hof
      refine cp_of hof rfl ?_
      simp (disch := omega) only [sd_t, dec_t, dec_f, i64_in, u32_in, u64_in, i64_quo, u32_quo, u64_quo, rem_in, Int.toNat_of_nonneg, go_sem, reduceCtorEq, ↓reduceIte, Nat.reduceEqDiff, Nat.reduceAdd, Nat.reduceSub, Nat.reduceMul, Nat.reduceLT, Nat.reduceLeDiff, Nat.reduceBEq, Nat.reduceBNe, Nat.reducePow, Nat.reduceDiv, Nat.reduceMod, Int.reduceAdd, Int.reduceSub, Int.reduceMul, Int.reduceLT, Int.reduceLE, Int.reduceEq, Int.reduceNe, Int.reduceNeg, Int.reduceToNat, Int.reducePow, Int.reduceDiv, Int.reduceMod, he, hh]
      have hlo : (dg 4294967296 1000000000).length ≤ 1 := dg_length (k := 1) (by omega) (by rw [Nat.pow_one]; omega)
      refine cp_of (Mul_fn hL.P a 1000000000 (by omega)) rfl ?_
      simp (disch := omega) only [sd_t, dec_t, dec_f, i64_in, u32_in, u64_in, i64_quo, u32_quo, u64_quo, rem_in, Int.toNat_of_nonneg, go_sem, reduceCtorEq, ↓reduceIte, Nat.reduceEqDiff, Nat.reduceAdd, Nat.reduceSub, Nat.reduceMul, Nat.reduceLT, Nat.reduceLeDiff, Nat.reduceBEq, Nat.reduceBNe, Nat.reducePow, Nat.reduceDiv, Nat.reduceMod, Int.reduceAdd, Int.reduceSub, Int.reduceMul, Int.reduceLT, Int.reduceLE, Int.reduceEq, Int.reduceNe, Int.reduceNeg, Int.reduceToNat, Int.reducePow, Int.reduceDiv, Int.reduceMod, he, hh]
      refine cp_of (Of_fn hL.P n (by omega)) rfl ?_
      simp (disch := omega) only [sd_t, dec_t, dec_f, i64_in, u32_in, u64_in, i64_quo, u32_quo, u64_quo, rem_in, Int.toNat_of_nonneg, go_sem, reduceCtorEq, ↓reduceIte, Nat.reduceEqDiff, Nat.reduceAdd, Nat.reduceSub, Nat.reduceMul, Nat.reduceLT, Nat.reduceLeDiff, Nat.reduceBEq, Nat.reduceBNe, Nat.reducePow, Nat.reduceDiv, Nat.reduceMod, Int.reduceAdd, Int.reduceSub, Int.reduceMul, Int.reduceLT, Int.reduceLE, Int.reduceEq, Int.reduceNe, Int.reduceNeg, Int.reduceToNat, Int.reducePow, Int.reduceDiv, Int.reduceMod, he, hh]
      refine cp_of (Add_fn hL.P (a * 1000000000) n (by omega) (by omega)) rfl ?_
      simp (disch := omega) only [sd_t, dec_t, dec_f, i64_in, u32_in, u64_in, i64_quo, u32_quo, u64_quo, rem_in, Int.toNat_of_nonneg, go_sem, reduceCtorEq, ↓reduceIte, Nat.reduceEqDiff, Nat.reduceAdd, Nat.reduceSub, Nat.reduceMul, Nat.reduceLT, Nat.reduceLeDiff, Nat.reduceBEq, Nat.reduceBNe, Nat.reducePow, Nat.reduceDiv, Nat.reduceMod, Int.reduceAdd, Int.reduceSub, Int.reduceMul, Int.reduceLT, Int.reduceLE, Int.reduceEq, Int.reduceNe, Int.reduceNeg, Int.reduceToNat, Int.reducePow, Int.reduceDiv, Int.reduceMod, he, hh]
      refine ih (s.drop j) (a * 1000000000 + n) _ (by simp; omega) (by simp; omega) (hd.drop j) hv' (.inr (by simp; omega)) ?_ ?_
      · simp only [go_sem, reduceCtorEq, ↓reduceIte, Nat.reduceEqDiff, Nat.reduceAdd, Nat.reduceSub, Nat.reduceMul, Nat.reduceLT, Nat.reduceLeDiff, Nat.reduceBEq, Nat.reduceBNe, Nat.reducePow, Nat.reduceDiv, Nat.reduceMod, Int.reduceAdd, Int.reduceSub, Int.reduceMul, Int.reduceLT, Int.reduceLE, Int.reduceEq, Int.reduceNe, Int.reduceNeg, Int.reduceToNat, Int.reducePow, Int.reduceDiv, Int.reduceMod, he, hh]
        rw [List.take_of_length_le (by simp)]
      · simp only [go_sem, reduceCtorEq, ↓reduceIte, Nat.reduceEqDiff, Nat.reduceAdd, Nat.reduceSub, Nat.reduceMul, Nat.reduceLT, Nat.reduceLeDiff, Nat.reduceBEq, Nat.reduceBNe, Nat.reducePow, Nat.reduceDiv, Nat.reduceMod, Int.reduceAdd, Int.reduceSub, Int.reduceMul, Int.reduceLT, Int.reduceLE, Int.reduceEq, Int.reduceNe, Int.reduceNeg, Int.reduceToNat, Int.reducePow, Int.reduceDiv, Int.reduceMod, he, hh]
theorem Parse_ok (hL : LibS X) (s : List UInt8) (hd : Digits s) (h0 : s ≠ []) (hz : ∀ c r, s = c :: r → c.toNat = 48 → r = []) (hs : s.length ≤ 1000) : Fn X 27 [vs s] (.tu [nat (dg 4294967296 (pv 0 s)), vi .i64 0]) := by
  have hlen := List.length_pos_iff.2 h0
  have ht : Lib.trimS s [48, 49, 50, 51, 52, 53, 54, 55, 56, 57] = [] := (trim_nil s).2 hd
  have hm : (dg 4294967296 (pv 0 s)).length ≤ 1000 := by
    exact Nat.le_trans (dg_length (by omega) (Nat.lt_of_lt_of_le (pv_lt hd) (Nat.pow_le_pow_left (by omega) s.length))) hs
  obtain ⟨c, r, rfl⟩ : ∃ c r, s = c :: r := by
    cases s with
    | nil => exact absurd rfl h0
    | cons c r => exact ⟨c, r, rfl⟩
  have he : ((c :: r) == ([] : List UInt8)) = false := rfl
  have hs' : r.length + 1 ≤ 1000 := by simpa using hs
  have he2 : (([] : List UInt8) == []) = true := rfl
  have hfin : ∀ S, En S [(0, .v (vs (c :: r))), (2, .op 100 0 0), (4, .op 101 0 0)] → Hp S [(100, .m 26 [.v (.sl 1 [])]), (101, .m 26 [.v (.sl 1 [])])] →
      wpC X F_nat_Parse_l0 (blkE 0 (thenE (fun S => wpC X F_nat_Parse_k0 (retQ R_nat_Parse [] fun H e => H = noH ∧ e = .v (.tu [nat (dg 4294967296 (pv 0 (c :: r))), vi .i64 0])) S) (retQ R_nat_Parse [] fun H e => H = noH ∧ e = .v (.tu [nat (dg 4294967296 (pv 0 (c :: r))), vi .i64 0])))) S := by
    intro S he hh
    refine Parse_l0 hL (pv 0 (c :: r)) hm ?_ _ (c :: r) 0 S (Nat.le_refl _) hs hd rfl (.inl rfl) he (by rw [dg_zero]; exact hh)
    intro S he hh
    simp only [En, Hp, and_true] at he hh
    simp (disch := omega) only [sd_t, dec_t, dec_f, i64_in, u32_in, u64_in, i64_quo, u32_quo, u64_quo, rem_in, Int.toNat_of_nonneg, go_sem, reduceCtorEq, ↓reduceIte, Nat.reduceEqDiff, Nat.reduceAdd, Nat.reduceSub, Nat.reduceMul, Nat.reduceLT, Nat.reduceLeDiff, Nat.reduceBEq, Nat.reduceBNe, Nat.reducePow, Nat.reduceDiv, Nat.reduceMod, Int.reduceAdd, Int.reduceSub, Int.reduceMul, Int.reduceLT, Int.reduceLE, Int.reduceEq, Int.reduceNe, Int.reduceNeg, Int.reduceToNat, Int.reducePow, Int.reduceDiv, Int.reduceMod, F_nat_Parse_k0, R_nat_Parse, he, hh]
  refine W_nat_Parse hL.P rfl ?_
  by_cases hc : c.toNat = 48
  · obtain rfl := hz c r rfl hc
    simp (disch := omega) only [sd_t, dec_t, dec_f, i64_in, u32_in, u64_in, i64_quo, u32_quo, u64_quo, rem_in, Int.toNat_of_nonneg, go_sem, reduceCtorEq, ↓reduceIte, Nat.reduceEqDiff, Nat.reduceAdd, Nat.reduceSub, Nat.reduceMul, Nat.reduceLT, Nat.reduceLeDiff, Nat.reduceBEq, Nat.reduceBNe, Nat.reducePow, Nat.reduceDiv, Nat.reduceMod, Int.reduceAdd, Int.reduceSub, Int.reduceMul, Int.reduceLT, Int.reduceLE, Int.reduceEq, Int.reduceNe, Int.reduceNeg, Int.reduceToNat, Int.reducePow, Int.reduceDiv, Int.reduceMod, F_nat_Parse, R_nat_Parse, he, List.getD_cons_zero, hc]
    refine cp_of (hL.trim [c] (by simp)) rfl ?_
    rw [ht]
    simp (disch := omega) only [sd_t, dec_t, dec_f, i64_in, u32_in, u64_in, i64_quo, u32_quo, u64_quo, rem_in, Int.toNat_of_nonneg, go_sem, reduceCtorEq, ↓reduceIte, Nat.reduceEqDiff, Nat.reduceAdd, Nat.reduceSub, Nat.reduceMul, Nat.reduceLT, Nat.reduceLeDiff, Nat.reduceBEq, Nat.reduceBNe, Nat.reducePow, Nat.reduceDiv, Nat.reduceMod, Int.reduceAdd, Int.reduceSub, Int.reduceMul, Int.reduceLT, Int.reduceLE, Int.reduceEq, Int.reduceNe, Int.reduceNeg, Int.reduceToNat, Int.reducePow, Int.reduceDiv, Int.reduceMod, he2]
    exact hfin _ (by simp only [go_sem, reduceCtorEq, ↓reduceIte, Nat.reduceEqDiff, Nat.reduceAdd, Nat.reduceSub, Nat.reduceMul, Nat.reduceLT, Nat.reduceLeDiff, Nat.reduceBEq, Nat.reduceBNe, Nat.reducePow, Nat.reduceDiv, Nat.reduceMod, Int.reduceAdd, Int.reduceSub, Int.reduceMul, Int.reduceLT, Int.reduceLE, Int.reduceEq, Int.reduceNe, Int.reduceNeg, Int.reduceToNat, Int.reducePow, Int.reduceDiv, Int.reduceMod]) (by simp only [go_sem, reduceCtorEq, ↓reduceIte, Nat.reduceEqDiff, Nat.reduceAdd, Nat.reduceSub, Nat.reduceMul, Nat.reduceLT, Nat.reduceLeDiff, Nat.reduceBEq, Nat.reduceBNe, Nat.reducePow, Nat.reduceDiv, Nat.reduceMod, Int.reduceAdd, Int.reduceSub, Int.reduceMul, Int.reduceLT, Int.reduceLE, Int.reduceEq, Int.reduceNe, Int.reduceNeg, Int.reduceToNat, Int.reducePow, Int.reduceDiv, Int.reduceMod])
  · simp (disch := omega) only [sd_t, dec_t, dec_f, i64_in, u32_in, u64_in, i64_quo, u32_quo, u64_quo, rem_in, Int.toNat_of_nonneg, go_sem, reduceCtorEq, ↓reduceIte, Nat.reduceEqDiff, Nat.reduceAdd, Nat.reduceSub, Nat.reduceMul, Nat.reduceLT, Nat.reduceLeDiff, Nat.reduceBEq, Nat.reduceBNe, Nat.reducePow, Nat.reduceDiv, Nat.reduceMod, Int.reduceAdd, Int.reduceSub, Int.reduceMul, Int.reduceLT, Int.reduceLE, Int.reduceEq, Int.reduceNe, Int.reduceNeg, Int.reduceToNat, Int.reducePow, Int.reduceDiv, Int.reduceMod, F_nat_Parse, R_nat_Parse, he, List.getD_cons_zero]
    refine cp_of (hL.trim (c :: r) (by simp; omega)) rfl ?_
    rw [ht]
    simp (disch := omega) only [sd_t, dec_t, dec_f, i64_in, u32_in, u64_in, i64_quo, u32_quo, u64_quo, rem_in, Int.toNat_of_nonneg, go_sem, reduceCtorEq, ↓reduceIte, Nat.reduceEqDiff, Nat.reduceAdd, Nat.reduceSub, Nat.reduceMul, Nat.reduceLT, Nat.reduceLeDiff, Nat.reduceBEq, Nat.reduceBNe, Nat.reducePow, Nat.reduceDiv, Nat.reduceMod, Int.reduceAdd, Int.reduceSub, Int.reduceMul, Int.reduceLT, Int.reduceLE, Int.reduceEq, Int.reduceNe, Int.reduceNeg, Int.reduceToNat, Int.reducePow, Int.reduceDiv, Int.reduceMod, he2]
    exact hfin _ (by simp only [go_sem, reduceCtorEq, ↓reduceIte, Nat.reduceEqDiff, Nat.reduceAdd, Nat.reduceSub, Nat.reduceMul, Nat.reduceLT, Nat.reduceLeDiff, Nat.reduceBEq, Nat.reduceBNe, Nat.reducePow, Nat.reduceDiv, Nat.reduceMod, Int.reduceAdd, Int.reduceSub, Int.reduceMul, Int.reduceLT, Int.reduceLE, Int.reduceEq, Int.reduceNe, Int.reduceNeg, Int.reduceToNat, Int.reducePow, Int.reduceDiv, Int.reduceMod]) (by simp only [go_sem, reduceCtorEq, ↓reduceIte, Nat.reduceEqDiff, Nat.reduceAdd, Nat.reduceSub, Nat.reduceMul, Nat.reduceLT, Nat.reduceLeDiff, Nat.reduceBEq, Nat.reduceBNe, Nat.reducePow, Nat.reduceDiv, Nat.reduceMod, Int.reduceAdd, Int.reduceSub, Int.reduceMul, Int.reduceLT, Int.reduceLE, Int.reduceEq, Int.reduceNe, Int.reduceNeg, Int.reduceToNat, Int.reducePow, Int.reduceDiv, Int.reduceMod])
theorem Parse_syn (hL : LibS X) (s : List UInt8) (hl : s.length ≤ 140737488355328) (h : ¬ (Digits s ∧ s ≠ [] ∧ ∀ c r, s = c :: r → c.toNat = 48 → r = [])) : Fn X 27 [vs s] (.tu [nat [], vi .i64 3]) := by
  have he2 : (([] : List UInt8) == []) = true := rfl
  refine W_nat_Parse hL.P rfl ?_
  cases s with
  | nil =>
    simp (disch := omega) only [sd_t, dec_t, dec_f, i64_in, u32_in, u64_in, i64_quo, u32_quo, u64_quo, rem_in, Int.toNat_of_nonneg, go_sem, reduceCtorEq, ↓reduceIte, Nat.reduceEqDiff, Nat.reduceAdd, Nat.reduceSub, Nat.reduceMul, Nat.reduceLT, Nat.reduceLeDiff, Nat.reduceBEq, Nat.reduceBNe, Nat.reducePow, Nat.reduceDiv, Nat.reduceMod, Int.reduceAdd, Int.reduceSub, Int.reduceMul, Int.reduceLT, Int.reduceLE, Int.reduceEq, Int.reduceNe, Int.reduceNeg, Int.reduceToNat, Int.reducePow, Int.reduceDiv, Int.reduceMod, F_nat_Parse, R_nat_Parse, he2]
    rfl
  | cons c r =>
    have he : ((c :: r) == ([] : List UInt8)) = false := rfl
    have hl' : r.length + 1 ≤ 140737488355328 := by simpa using hl
    by_cases hc : c.toNat = 48
    · by_cases hr : r = []
      · subst hr
        have hd : Digits [c] := fun x hx => by
          have : x = c := by simpa using hx
          subst this
          omega
        exact absurd ⟨hd, by simp, fun c' r' e _ => by cases e; rfl⟩ h
      · have hr1 := List.length_pos_iff.2 hr
        simp (disch := omega) only [sd_t, dec_t, dec_f, i64_in, u32_in, u64_in, i64_quo, u32_quo, u64_quo, rem_in, Int.toNat_of_nonneg, go_sem, reduceCtorEq, ↓reduceIte, Nat.reduceEqDiff, Nat.reduceAdd, Nat.reduceSub, Nat.reduceMul, Nat.reduceLT, Nat.reduceLeDiff, Nat.reduceBEq, Nat.reduceBNe, Nat.reducePow, Nat.reduceDiv, Nat.reduceMod, Int.reduceAdd, Int.reduceSub, Int.reduceMul, Int.reduceLT, Int.reduceLE, Int.reduceEq, Int.reduceNe, Int.reduceNeg, Int.reduceToNat, Int.reducePow, Int.reduceDiv, Int.reduceMod, F_nat_Parse, R_nat_Parse, he, List.getD_cons_zero, hc]
        rfl
    · have ht : ¬ Lib.trimS (c :: r) [48, 49, 50, 51, 52, 53, 54, 55, 56, 57] = [] := fun e => h ⟨(trim_nil _).1 e, by simp, fun c' r' e' hc' => by cases e'; exact absurd hc' hc⟩
      have ht2 : (Lib.trimS (c :: r) [48, 49, 50, 51, 52, 53, 54, 55, 56, 57] == ([] : List UInt8)) = false := by simpa using ht
      simp (disch := omega) only [sd_t, dec_t, dec_f, i64_in, u32_in, u64_in, i64_quo, u32_quo, u64_quo, rem_in, Int.toNat_of_nonneg, go_sem, reduceCtorEq, ↓reduceIte, Nat.reduceEqDiff, Nat.reduceAdd, Nat.reduceSub, Nat.reduceMul, Nat.reduceLT, Nat.reduceLeDiff, Nat.reduceBEq, Nat.reduceBNe, Nat.reducePow, Nat.reduceDiv, Nat.reduceMod, Int.reduceAdd, Int.reduceSub, Int.reduceMul, Int.reduceLT, Int.reduceLE, Int.reduceEq, Int.reduceNe, Int.reduceNeg, Int.reduceToNat, Int.reducePow, Int.reduceDiv, Int.reduceMod, F_nat_Parse, R_nat_Parse, he, List.getD_cons_zero]
      refine cp_of (hL.trim (c :: r) (by simp; omega)) rfl ?_
      simp (disch := omega) only [sd_t, dec_t, dec_f, i64_in, u32_in, u64_in, i64_quo, u32_quo, u64_quo, rem_in, Int.toNat_of_nonneg, go_sem, reduceCtorEq, ↓reduceIte, Nat.reduceEqDiff, Nat.reduceAdd, Nat.reduceSub, Nat.reduceMul, Nat.reduceLT, Nat.reduceLeDiff, Nat.reduceBEq, Nat.reduceBNe, Nat.reducePow, Nat.reduceDiv, Nat.reduceMod, Int.reduceAdd, Int.reduceSub, Int.reduceMul, Int.reduceLT, Int.reduceLE, Int.reduceEq, Int.reduceNe, Int.reduceNeg, Int.reduceToNat, Int.reducePow, Int.reduceDiv, Int.reduceMod, ht2]
      rfl
end Go.Proofs.YtmjkhbjfacfmcaaGreatDoor.VX
end
section
namespace Go.Proofs.YtmjkhbjfacfmcaaGreatDoor.VX
open Go Go.RowKit Go.Proofs.YtmjkhbjfacfmcaaGreatDoor.NM IntWalk
set_option linter.unusedVariables false
set_option linter.unusedSimpArgs false
variable {X : Ctx}
def nbits (n : Nat) : Nat := if n = 0 then 0 else n.log2 + 1
theorem nbits_of {n k : Nat} (h1 : 2 ^ k ≤ n) (h2 : n < 2 ^ (k + 1)) : nbits n = k + 1 := by
  have h0 : n ≠ 0 := by have := Nat.two_pow_pos k; omega
  unfold nbits
  rw [if_neg h0, (Nat.log2_eq_iff h0).2 ⟨h1, h2⟩]
theorem nbits_spec {n : Nat} (h : n ≠ 0) : ∃ k, nbits n = k + 1 ∧ 2 ^ k ≤ n ∧ n < 2 ^ (k + 1) := ⟨n.log2, by unfold nbits; rw [if_neg h], (Nat.log2_eq_iff h).1 rfl⟩
theorem nbits_lib {t : Nat} (h0 : 0 < t) (h : t < 4294967296) : Lib.bitLen t = nbits t := by
  obtain ⟨h1, h2, h3⟩ := Lib.bitLenAux_bounds 64 t (by omega) (by omega)
  change 1 ≤ Lib.bitLen t at h1
  change 2 ^ (Lib.bitLen t - 1) ≤ t at h2
  change t < 2 ^ Lib.bitLen t at h3
  obtain ⟨k, hk⟩ : ∃ k, Lib.bitLen t = k + 1 := ⟨Lib.bitLen t - 1, by omega⟩
  rw [hk] at h2 h3 ⊢
  exact (nbits_of (by simpa using h2) h3).symm
theorem nbits_top {r t m : Nat} (ht : 0 < t) (hr : r < 4294967296 ^ m) : nbits (r + 4294967296 ^ m * t) = 32 * m + nbits t := by
  obtain ⟨k, h1, h2, h3⟩ := nbits_spec (n := t) (by omega)
  have e : (4294967296 : Nat) ^ m = 2 ^ (32 * m) := by rw [Nat.pow_mul]
  rw [h1, ← Nat.add_assoc]
  refine nbits_of ?_ ?_
  · rw [Nat.pow_add, ← e]
    have := Nat.mul_le_mul_left (4294967296 ^ m) h2
    omega
  · rw [Nat.add_assoc, Nat.pow_add, ← e]
    have := Nat.mul_le_mul_left (4294967296 ^ m) (show t + 1 ≤ 2 ^ (k + 1) from h3)
    rw [Nat.mul_add, Nat.mul_one] at this
    omega
theorem Bits_fn (hL : LibN X) (n : Nat) (hn : (dg 4294967296 n).length ≤ 100000000) : Fn X 18 [nat (dg 4294967296 n)] (vi .i64 (nbits n)) := by
  refine W_nat_Bits hL.P rfl ?_
  rcases Nat.eq_zero_or_pos n with h0 | h0
  · subst h0
    simp (disch := omega) only [sd_t, dec_t, dec_f, i64_in, u32_in, u64_in, i64_quo, u32_quo, u64_quo, rem_in, Int.toNat_of_nonneg, go_sem, reduceCtorEq, ↓reduceIte, Nat.reduceEqDiff, Nat.reduceAdd, Nat.reduceSub, Nat.reduceMul, Nat.reduceLT, Nat.reduceLeDiff, Nat.reduceBEq, Nat.reduceBNe, Nat.reducePow, Nat.reduceDiv, Nat.reduceMod, Int.reduceAdd, Int.reduceSub, Int.reduceMul, Int.reduceLT, Int.reduceLE, Int.reduceEq, Int.reduceNe, Int.reduceNeg, Int.reduceToNat, Int.reducePow, Int.reduceDiv, Int.reduceMod, F_nat_Bits, R_nat_Bits]
    refine cp_of (IsZero_fn hL.P (dg 4294967296 0)) rfl ?_
    simp (disch := omega) only [sd_t, dec_t, dec_f, i64_in, u32_in, u64_in, i64_quo, u32_quo, u64_quo, rem_in, Int.toNat_of_nonneg, go_sem, reduceCtorEq, ↓reduceIte, Nat.reduceEqDiff, Nat.reduceAdd, Nat.reduceSub, Nat.reduceMul, Nat.reduceLT, Nat.reduceLeDiff, Nat.reduceBEq, Nat.reduceBNe, Nat.reducePow, Nat.reduceDiv, Nat.reduceMod, Int.reduceAdd, Int.reduceSub, Int.reduceMul, Int.reduceLT, Int.reduceLE, Int.reduceEq, Int.reduceNe, Int.reduceNeg, Int.reduceToNat, Int.reducePow, Int.reduceDiv, Int.reduceMod, dg_zero, List.length_nil]
    rfl
  · have hp : 0 < (dg 4294967296 n).length := by rw [dg_pos (by omega) h0]; simp
    obtain ⟨m, hm⟩ : ∃ m, (dg 4294967296 n).length = m + 1 := ⟨(dg 4294967296 n).length - 1, by omega⟩
    have hx := (dig32 n).rd (by omega) m
    have ht0 := top_pos hm
    obtain ⟨t, ht⟩ : ∃ t : Nat, rd (dg 4294967296 n) (m : Int) = (t : Int) := ⟨(rd (dg 4294967296 n) (m : Int)).toNat, by omega⟩
    have hv := vl_parts 4294967296 (dg 4294967296 n) m (by omega)
    rw [vl32, vl_drop_out _ _ _ (by omega), ht] at hv
    have hlt := vl_lt (by omega) ((dig32 n).take m)
    have hge := vl_nonneg (by omega) ((dig32 n).take m)
    rw [List.length_take, Nat.min_eq_left (by omega)] at hlt
    obtain ⟨r, hr⟩ : ∃ r : Nat, vl 4294967296 ((dg 4294967296 n).take m) = (r : Int) := ⟨(vl 4294967296 ((dg 4294967296 n).take m)).toNat, by omega⟩
    rw [hr] at hv hlt
    have hpc : ((4294967296 : Int) ^ m) = ((4294967296 ^ m : Nat) : Int) := pow_cast 4294967296 m
    rw [hpc] at hv hlt
    have hr2 : r < 4294967296 ^ m := by omega
    have hn2 : n = r + 4294967296 ^ m * t := by
      rw [Int.mul_zero, Int.add_zero, ← Int.natCast_mul, ← Int.natCast_add] at hv
      exact Int.ofNat.inj hv
    have hb : nbits n = 32 * m + nbits t := by rw [hn2]; exact nbits_top (by omega) hr2
    have hlen : ((dg 4294967296 n).length : Int) - 1 = (m : Int) := by omega
    have hl := nbits_lib (t := t) (by omega) (by omega)
    have hb32 : nbits t ≤ 32 := by
      rw [← hl]
      exact Lib.bitLen_le t 32 (by omega) (by omega)
    simp (disch := omega) only [sd_t, dec_t, dec_f, i64_in, u32_in, u64_in, i64_quo, u32_quo, u64_quo, rem_in, Int.toNat_of_nonneg, go_sem, reduceCtorEq, ↓reduceIte, Nat.reduceEqDiff, Nat.reduceAdd, Nat.reduceSub, Nat.reduceMul, Nat.reduceLT, Nat.reduceLeDiff, Nat.reduceBEq, Nat.reduceBNe, Nat.reducePow, Nat.reduceDiv, Nat.reduceMod, Int.reduceAdd, Int.reduceSub, Int.reduceMul, Int.reduceLT, Int.reduceLE, Int.reduceEq, Int.reduceNe, Int.reduceNeg, Int.reduceToNat, Int.reducePow, Int.reduceDiv, Int.reduceMod, F_nat_Bits, R_nat_Bits]
    refine cp_of (IsZero_fn hL.P (dg 4294967296 n)) rfl ?_
    simp (disch := omega) only [sd_t, dec_t, dec_f, i64_in, u32_in, u64_in, i64_quo, u32_quo, u64_quo, rem_in, Int.toNat_of_nonneg, go_sem, reduceCtorEq, ↓reduceIte, Nat.reduceEqDiff, Nat.reduceAdd, Nat.reduceSub, Nat.reduceMul, Nat.reduceLT, Nat.reduceLeDiff, Nat.reduceBEq, Nat.reduceBNe, Nat.reducePow, Nat.reduceDiv, Nat.reduceMod, Int.reduceAdd, Int.reduceSub, Int.reduceMul, Int.reduceLT, Int.reduceLE, Int.reduceEq, Int.reduceNe, Int.reduceNeg, Int.reduceToNat, Int.reducePow, Int.reduceDiv, Int.reduceMod, hlen, ht]
    refine cp_of (hL.len32 t (by omega)) rfl ?_
    simp (disch := omega) only [sd_t, dec_t, dec_f, i64_in, u32_in, u64_in, i64_quo, u32_quo, u64_quo, rem_in, Int.toNat_of_nonneg, go_sem, reduceCtorEq, ↓reduceIte, Nat.reduceEqDiff, Nat.reduceAdd, Nat.reduceSub, Nat.reduceMul, Nat.reduceLT, Nat.reduceLeDiff, Nat.reduceBEq, Nat.reduceBNe, Nat.reducePow, Nat.reduceDiv, Nat.reduceMod, Int.reduceAdd, Int.reduceSub, Int.reduceMul, Int.reduceLT, Int.reduceLE, Int.reduceEq, Int.reduceNe, Int.reduceNeg, Int.reduceToNat, Int.reducePow, Int.reduceDiv, Int.reduceMod]
    rw [hl, hb, Int.natCast_add, Int.natCast_mul]
    rfl
end Go.Proofs.YtmjkhbjfacfmcaaGreatDoor.VX
end
section
namespace Go.Proofs.YtmjkhbjfacfmcaaGreatDoor.VX
open Go
set_option linter.unusedVariables false
def F_waypointref01_Uint64_b0 : C := (.keep [0, 4, 5] [] (.seq (.seq (.reg [⟨some 10, none, [], [], .mov (.t 5)⟩, ⟨some 11, none, [], [], .bin .geq (.t 10) (.k (.sc (.int .i64 0)))⟩]) (.cond (.t 11) .skip (.exit 0))) (.seq (.block 1 (.seq (.reg [⟨some 14, none, [], [], .mov (.t 0)⟩, ⟨some 15, none, [], [], .mov (.t 5)⟩, ⟨some 16, none, [], [], .ia 1 (.t 14) (.t 15)⟩, ⟨some 17, none, [], [], .ld 1 false (.t 16)⟩, ⟨some 18, none, [], [], .cv .u64 (.t 17)⟩, ⟨some 6, none, [], [], .mov (.t 18)⟩]) (.seq (.seq (.reg [⟨some 19, none, [], [], .mov (.t 4)⟩, ⟨some 20, none, [], [], .mov (.t 6)⟩, ⟨some 21, none, [], [], .bin .sub (.k (.sc (.int .u64 18446744073709551615))) (.t 20)⟩, ⟨some 22, none, [], [], .bin .quo (.t 21) (.k (.sc (.int .u64 1000000)))⟩, ⟨some 23, none, [], [], .bin .gtr (.t 19) (.t 22)⟩]) (.cond (.t 23) (.seq (.reg [⟨some 2, none, [], [], .mov (.k (.sc (.int .u64 0)))⟩, ⟨some 3, none, [], [], .mov (.k (.sc (.bool false)))⟩]) .ret) .skip)) (.reg [⟨some 24, none, [], [], .mov (.t 4)⟩, ⟨some 25, none, [], [], .bin .mul (.t 24) (.k (.sc (.int .u64 1000000)))⟩, ⟨some 26, none, [], [], .mov (.t 6)⟩, ⟨some 27, none, [], [], .bin .add (.t 25) (.t 26)⟩, ⟨some 4, none, [], [], .mov (.t 27)⟩])))) (.reg [⟨some 12, none, [], [], .mov (.t 5)⟩, ⟨some 13, none, [], [], .bin .sub (.t 12) (.k (.sc (.int .i64 1)))⟩, ⟨some 5, none, [], [], .mov (.t 13)⟩]))))
def F_waypointref01_Uint64_l0 : C := .loop F_waypointref01_Uint64_b0
def F_waypointref01_Uint64_k0 : C := (.seq (.reg [⟨some 28, none, [], [], .mov (.t 4)⟩, ⟨some 2, none, [], [], .mov (.t 28)⟩, ⟨some 3, none, [], [], .mov (.k (.sc (.bool true)))⟩]) .ret)
def F_waypointref01_Uint64 : C := (.seq (.reg [⟨some 2, none, [], [], .mov (.k (.sc (.int .u64 0)))⟩, ⟨some 3, none, [], [], .mov (.k (.sc (.bool false)))⟩]) (.seq (.reg [⟨some 4, none, [], [], .mov (.k (.sc (.int .u64 0)))⟩]) (.seq (.seq (.reg [⟨some 7, none, [], [], .mov (.t 0)⟩, ⟨some 8, none, [], [], .len false (.t 7)⟩, ⟨some 9, none, [], [], .bin .sub (.t 8) (.k (.sc (.int .i64 1)))⟩, ⟨some 5, none, [], [], .mov (.t 9)⟩]) (.block 0 F_waypointref01_Uint64_l0)) F_waypointref01_Uint64_k0)))
def R_waypointref01_Uint64 : List RV := [.t 2, .t 3]
theorem C_waypointref01_Uint64 : (chkC Tryz.prog Tryz.f15.ntmps F_waypointref01_Uint64 (Tryz.f15.body.getD .skip) && chkRVs Tryz.prog R_waypointref01_Uint64 Tryz.f15.results.toList && decide (R_waypointref01_Uint64.length ≤ 4) && decide (1 ≤ Tryz.f15.ntmps)) = true := by kernel_rfl
theorem W_waypointref01_Uint64 {X : Ctx} (hP : X.P = Tryz.prog) {args : List V} {r : V} (hn : args.length = 1) (h : wpC X F_waypointref01_Uint64 (retQ R_waypointref01_Uint64 [] fun H e => H = noH ∧ e = .v r) ⟨argE 0 (args.map .v), noH⟩) : Fn X 15 args r := fn_of hP Tryz.func15 rfl C_waypointref01_Uint64 hn h
def F_waypointref01_without_b0 : C := (.keep [0] [] (.seq (.seq (.reg [⟨some 3, none, [], [], .mov (.t 0)⟩, ⟨some 4, none, [], [], .len false (.t 3)⟩, ⟨some 5, none, [], [], .bin .gtr (.t 4) (.k (.sc (.int .i64 0)))⟩, ⟨some 6, none, [], [], .mov (.t 5)⟩, ⟨some 7, (some (6, true)), [], [], .mov (.t 0)⟩, ⟨some 8, (some (6, true)), [], [], .mov (.t 0)⟩, ⟨some 9, (some (6, true)), [], [], .len false (.t 8)⟩, ⟨some 10, (some (6, true)), [], [], .bin .sub (.t 9) (.k (.sc (.int .i64 1)))⟩, ⟨some 11, (some (6, true)), [], [], .ia 1 (.t 7) (.t 10)⟩, ⟨some 12, (some (6, true)), [], [], .ld 1 false (.t 11)⟩, ⟨some 13, (some (6, true)), [], [], .bin .eql (.t 12) (.k (.sc (.int .i64 0)))⟩, ⟨some 14, none, [], [], .pk (.t 6) (.t 13) (.k (.sc (.bool false)))⟩]) (.cond (.t 14) .skip (.exit 0))) (.block 1 (.reg [⟨some 15, none, [], [], .mov (.t 0)⟩, ⟨some 16, none, [], [], .mov (.t 0)⟩, ⟨some 17, none, [], [], .len false (.t 16)⟩, ⟨some 18, none, [], [], .bin .sub (.t 17) (.k (.sc (.int .i64 1)))⟩, ⟨some 19, none, [], [], .slc 1 (.t 15) none (some (.t 18)) none⟩, ⟨some 0, none, [], [], .mov (.t 19)⟩]))))
def F_waypointref01_without_l0 : C := .loop F_waypointref01_without_b0
def F_waypointref01_without_k0 : C := (.seq (.reg [⟨some 20, none, [], [], .bs 100 3 1 0 []⟩, ⟨some 21, none, [], [], .mov (.t 0)⟩, ⟨some 22, none, [], [], .ap 3 1 8 (.t 20) (.t 21)⟩, ⟨some 2, none, [], [], .mov (.t 22)⟩]) (.frz 100 .ret))
def F_waypointref01_without : C := (.seq (.reg [⟨some 2, none, [], [], .mov (.k (.sl 1 []))⟩]) (.seq (.block 0 F_waypointref01_without_l0) F_waypointref01_without_k0))
def R_waypointref01_without : List RV := [.t 2]
theorem C_waypointref01_without : (chkC Tryz.prog Tryz.f38.ntmps F_waypointref01_without (Tryz.f38.body.getD .skip) && chkRVs Tryz.prog R_waypointref01_without Tryz.f38.results.toList && decide (R_waypointref01_without.length ≤ 4) && decide (1 ≤ Tryz.f38.ntmps)) = true := by kernel_rfl
theorem W_waypointref01_without {X : Ctx} (hP : X.P = Tryz.prog) {args : List V} {r : V} (hn : args.length = 1) (h : wpC X F_waypointref01_without (retQ R_waypointref01_without [] fun H e => H = noH ∧ e = .v r) ⟨argE 0 (args.map .v), noH⟩) : Fn X 38 args r := fn_of hP Tryz.func38 rfl C_waypointref01_without hn h
def F_waypointref01_Of_b0 : C := (.keep [0, 3] [100] (.seq (.seq (.reg [⟨some 4, none, [], [], .mov (.t 0)⟩, ⟨some 5, none, [], [], .bin .gtr (.t 4) (.k (.sc (.int .u64 0)))⟩]) (.cond (.t 5) .skip (.exit 0))) (.block 1 (.seq (.reg [⟨some 6, none, [], [], .mov (.t 3)⟩, ⟨some 7, none, [], [], .mov (.t 0)⟩, ⟨some 8, none, [], [], .bin .rem (.t 7) (.k (.sc (.int .u64 1000000)))⟩, ⟨some 9, none, [], [], .cv .i64 (.t 8)⟩, ⟨some 10, none, [], [], .bs 101 3 1 1 [(.t 9)]⟩, ⟨some 11, none, [], [], .ap 3 1 8 (.t 6) (.t 10)⟩, ⟨some 3, none, [], [], .mov (.t 11)⟩]) (.reg [⟨some 12, none, [], [], .mov (.t 0)⟩, ⟨some 13, none, [], [], .bin .quo (.t 12) (.k (.sc (.int .u64 1000000)))⟩, ⟨some 0, none, [], [], .mov (.t 13)⟩])))))
def F_waypointref01_Of_l0 : C := .loop F_waypointref01_Of_b0
def F_waypointref01_Of_k0 : C := (.seq (.reg [⟨some 14, none, [], [], .mov (.t 3)⟩, ⟨some 15, none, [], [100], .cp 38 [(.t 14)]⟩, ⟨some 2, none, [], [], .mov (.t 15)⟩]) .ret)
def F_waypointref01_Of : C := (.seq (.reg [⟨some 2, none, [], [], .mov (.k (.sl 1 []))⟩]) (.seq (.reg [⟨some 3, none, [], [], .nl 100 3 1⟩]) (.seq (.block 0 F_waypointref01_Of_l0) F_waypointref01_Of_k0)))
def R_waypointref01_Of : List RV := [.t 2]
theorem C_waypointref01_Of : (chkC Tryz.prog Tryz.f17.ntmps F_waypointref01_Of (Tryz.f17.body.getD .skip) && chkRVs Tryz.prog R_waypointref01_Of Tryz.f17.results.toList && decide (R_waypointref01_Of.length ≤ 4) && decide (1 ≤ Tryz.f17.ntmps)) = true := by kernel_rfl
theorem W_waypointref01_Of {X : Ctx} (hP : X.P = Tryz.prog) {args : List V} {r : V} (hn : args.length = 1) (h : wpC X F_waypointref01_Of (retQ R_waypointref01_Of [] fun H e => H = noH ∧ e = .v r) ⟨argE 0 (args.map .v), noH⟩) : Fn X 17 args r := fn_of hP Tryz.func17 rfl C_waypointref01_Of hn h
def F_waypointref01_carried_b0 : C := (.keep [0, 3, 4, 5] [100] (.seq (.seq (.reg [⟨some 6, none, [], [], .mov (.t 5)⟩, ⟨some 7, none, [], [], .mov (.t 0)⟩, ⟨some 8, none, [], [], .len false (.t 7)⟩, ⟨some 9, none, [], [], .bin .lss (.t 6) (.t 8)⟩, ⟨some 10, none, [], [], .mov (.t 9)⟩, ⟨some 11, (some (10, false)), [], [], .mov (.t 4)⟩, ⟨some 12, (some (10, false)), [], [], .bin .gtr (.t 11) (.k (.sc (.int .i64 0)))⟩, ⟨some 13, none, [], [], .pk (.t 10) (.k (.sc (.bool true))) (.t 12)⟩]) (.cond (.t 13) .skip (.exit 0))) (.seq (.block 1 (.seq (.seq (.reg [⟨some 16, none, [], [], .mov (.t 5)⟩, ⟨some 17, none, [], [], .mov (.t 0)⟩, ⟨some 18, none, [], [], .len false (.t 17)⟩, ⟨some 19, none, [], [], .bin .lss (.t 16) (.t 18)⟩]) (.cond (.t 19) (.reg [⟨some 20, none, [], [], .mov (.t 4)⟩, ⟨some 21, none, [], [], .mov (.t 0)⟩, ⟨some 22, none, [], [], .mov (.t 5)⟩, ⟨some 23, none, [], [], .ia 1 (.t 21) (.t 22)⟩, ⟨some 24, none, [], [], .ld 1 false (.t 23)⟩, ⟨some 25, none, [], [], .bin .add (.t 20) (.t 24)⟩, ⟨some 4, none, [], [], .mov (.t 25)⟩]) .skip)) (.seq (.reg [⟨some 26, none, [], [], .mov (.t 3)⟩, ⟨some 27, none, [], [], .mov (.t 4)⟩, ⟨some 28, none, [], [], .bin .rem (.t 27) (.k (.sc (.int .i64 1000000)))⟩, ⟨some 29, none, [], [], .bs 101 3 1 1 [(.t 28)]⟩, ⟨some 30, none, [], [], .ap 3 1 8 (.t 26) (.t 29)⟩, ⟨some 3, none, [], [], .mov (.t 30)⟩]) (.reg [⟨some 31, none, [], [], .mov (.t 4)⟩, ⟨some 32, none, [], [], .bin .quo (.t 31) (.k (.sc (.int .i64 1000000)))⟩, ⟨some 4, none, [], [], .mov (.t 32)⟩])))) (.reg [⟨some 14, none, [], [], .mov (.t 5)⟩, ⟨some 15, none, [], [], .bin .add (.t 14) (.k (.sc (.int .i64 1)))⟩, ⟨some 5, none, [], [], .mov (.t 15)⟩]))))
def F_waypointref01_carried_l0 : C := .loop F_waypointref01_carried_b0
def F_waypointref01_carried_k0 : C := (.seq (.reg [⟨some 33, none, [], [], .mov (.t 3)⟩, ⟨some 34, none, [], [100], .cp 38 [(.t 33)]⟩, ⟨some 2, none, [], [], .mov (.t 34)⟩]) .ret)
def F_waypointref01_carried : C := (.seq (.reg [⟨some 2, none, [], [], .mov (.k (.sl 1 []))⟩]) (.seq (.reg [⟨some 3, none, [], [], .nl 100 3 1⟩]) (.seq (.reg [⟨some 4, none, [], [], .mov (.k (.sc (.int .i64 0)))⟩]) (.seq (.seq (.reg [⟨some 5, none, [], [], .mov (.k (.sc (.int .i64 0)))⟩]) (.block 0 F_waypointref01_carried_l0)) F_waypointref01_carried_k0))))
def R_waypointref01_carried : List RV := [.t 2]
theorem C_waypointref01_carried : (chkC Tryz.prog Tryz.f45.ntmps F_waypointref01_carried (Tryz.f45.body.getD .skip) && chkRVs Tryz.prog R_waypointref01_carried Tryz.f45.results.toList && decide (R_waypointref01_carried.length ≤ 4) && decide (1 ≤ Tryz.f45.ntmps)) = true := by kernel_rfl
theorem W_waypointref01_carried {X : Ctx} (hP : X.P = Tryz.prog) {args : List V} {r : V} (hn : args.length = 1) (h : wpC X F_waypointref01_carried (retQ R_waypointref01_carried [] fun H e => H = noH ∧ e = .v r) ⟨argE 0 (args.map .v), noH⟩) : Fn X 45 args r := fn_of hP Tryz.func45 rfl C_waypointref01_carried hn h
def F_waypointref01_times_b0 : C := (.keep [0, 1, 5, 6] [100] (.seq (.seq (.reg [⟨some 7, none, [], [], .mov (.t 6)⟩, ⟨some 8, none, [], [], .mov (.t 0)⟩, ⟨some 9, none, [], [], .len false (.t 8)⟩, ⟨some 10, none, [], [], .bin .lss (.t 7) (.t 9)⟩]) (.cond (.t 10) .skip (.exit 0))) (.seq (.block 1 (.reg [⟨some 13, none, [], [], .mov (.t 5)⟩, ⟨some 14, none, [], [], .mov (.t 0)⟩, ⟨some 15, none, [], [], .mov (.t 6)⟩, ⟨some 16, none, [], [], .ia 1 (.t 14) (.t 15)⟩, ⟨some 17, none, [], [], .ld 1 false (.t 16)⟩, ⟨some 18, none, [], [], .mov (.t 1)⟩, ⟨some 19, none, [], [], .bin .mul (.t 17) (.t 18)⟩, ⟨some 20, none, [], [], .bs 101 3 1 1 [(.t 19)]⟩, ⟨some 21, none, [], [], .ap 3 1 8 (.t 13) (.t 20)⟩, ⟨some 5, none, [], [], .mov (.t 21)⟩])) (.reg [⟨some 11, none, [], [], .mov (.t 6)⟩, ⟨some 12, none, [], [], .bin .add (.t 11) (.k (.sc (.int .i64 1)))⟩, ⟨some 6, none, [], [], .mov (.t 12)⟩]))))
def F_waypointref01_times_l0 : C := .loop F_waypointref01_times_b0
def F_waypointref01_times_k0 : C := (.seq (.reg [⟨some 22, none, [], [], .mov (.t 5)⟩, ⟨some 23, none, [], [100], .cp 45 [(.t 22)]⟩, ⟨some 4, none, [], [], .mov (.t 23)⟩]) .ret)
def F_waypointref01_times : C := (.seq (.reg [⟨some 4, none, [], [], .mov (.k (.sl 1 []))⟩]) (.seq (.reg [⟨some 5, none, [], [], .nl 100 3 1⟩]) (.seq (.seq (.reg [⟨some 6, none, [], [], .mov (.k (.sc (.int .i64 0)))⟩]) (.block 0 F_waypointref01_times_l0)) F_waypointref01_times_k0)))
def R_waypointref01_times : List RV := [.t 4]
theorem C_waypointref01_times : (chkC Tryz.prog Tryz.f40.ntmps F_waypointref01_times (Tryz.f40.body.getD .skip) && chkRVs Tryz.prog R_waypointref01_times Tryz.f40.results.toList && decide (R_waypointref01_times.length ≤ 4) && decide (2 ≤ Tryz.f40.ntmps)) = true := by kernel_rfl
theorem W_waypointref01_times {X : Ctx} (hP : X.P = Tryz.prog) {args : List V} {r : V} (hn : args.length = 2) (h : wpC X F_waypointref01_times (retQ R_waypointref01_times [] fun H e => H = noH ∧ e = .v r) ⟨argE 0 (args.map .v), noH⟩) : Fn X 40 args r := fn_of hP Tryz.func40 rfl C_waypointref01_times hn h
def F_waypointref01_Bits_b0 : C := (.keep [0, 3, 4, 5, 6] [100] (.seq (.seq (.reg [⟨some 16, none, [], [], .mov (.t 6)⟩, ⟨some 17, none, [], [], .bin .geq (.t 16) (.k (.sc (.int .i64 0)))⟩]) (.cond (.t 17) .skip (.exit 2))) (.seq (.block 3 (.seq (.reg [⟨some 20, none, [], [], .mov (.t 5)⟩, ⟨some 21, none, [], [], .bin .mul (.t 20) (.k (.sc (.int .i64 1000000)))⟩, ⟨some 22, none, [], [], .mov (.t 0)⟩, ⟨some 23, none, [], [], .mov (.t 6)⟩, ⟨some 24, none, [], [], .ia 1 (.t 22) (.t 23)⟩, ⟨some 25, none, [], [], .ld 1 false (.t 24)⟩, ⟨some 26, none, [], [], .bin .add (.t 21) (.t 25)⟩, ⟨some 5, none, [], [], .mov (.t 26)⟩]) (.seq (.reg [⟨some 27, none, [], [], .mov (.t 4)⟩, ⟨some 28, none, [], [], .mov (.t 6)⟩, ⟨some 29, none, [], [], .mov (.t 5)⟩, ⟨some 30, none, [], [], .bin .quo (.t 29) (.k (.sc (.int .i64 2)))⟩, ⟨some 31, none, [], [], .ia 1 (.t 27) (.t 28)⟩, ⟨none, none, [], [], .st 1 [] (.t 31) (.t 30)⟩]) (.reg [⟨some 32, none, [], [], .mov (.t 5)⟩, ⟨some 33, none, [], [], .bin .rem (.t 32) (.k (.sc (.int .i64 2)))⟩, ⟨some 5, none, [], [], .mov (.t 33)⟩])))) (.reg [⟨some 18, none, [], [], .mov (.t 6)⟩, ⟨some 19, none, [], [], .bin .sub (.t 18) (.k (.sc (.int .i64 1)))⟩, ⟨some 6, none, [], [], .mov (.t 19)⟩]))))
def F_waypointref01_Bits_l0 : C := .loop F_waypointref01_Bits_b0
def F_waypointref01_Bits_k0 : C := (.seq (.reg [⟨some 34, none, [], [], .mov (.t 4)⟩, ⟨some 35, none, [], [100], .cp 38 [(.t 34)]⟩, ⟨some 0, none, [], [], .mov (.t 35)⟩]) (.reg [⟨some 36, none, [], [], .mov (.t 3)⟩, ⟨some 37, none, [], [], .bin .add (.t 36) (.k (.sc (.int .i64 1)))⟩, ⟨some 3, none, [], [], .mov (.t 37)⟩]))
def F_waypointref01_Bits_b1 : C := (.keep [0, 3] [] (.seq (.seq (.reg [⟨some 7, none, [], [], .mov (.t 0)⟩, ⟨some 8, none, [], [], .len false (.t 7)⟩, ⟨some 9, none, [], [], .bin .gtr (.t 8) (.k (.sc (.int .i64 0)))⟩]) (.cond (.t 9) .skip (.exit 0))) (.block 1 (.seq (.reg [⟨some 10, none, [], [], .mov (.t 0)⟩, ⟨some 11, none, [], [], .len false (.t 10)⟩, ⟨some 12, none, [], [], .mk 100 3 1 8 [(.sc (.int .i64 0))] (.t 11) (.t 11)⟩, ⟨some 4, none, [], [], .mov (.t 12)⟩]) (.seq (.reg [⟨some 5, none, [], [], .mov (.k (.sc (.int .i64 0)))⟩]) (.seq (.seq (.reg [⟨some 13, none, [], [], .mov (.t 0)⟩, ⟨some 14, none, [], [], .len false (.t 13)⟩, ⟨some 15, none, [], [], .bin .sub (.t 14) (.k (.sc (.int .i64 1)))⟩, ⟨some 6, none, [], [], .mov (.t 15)⟩]) (.block 2 F_waypointref01_Bits_l0)) F_waypointref01_Bits_k0))))))
def F_waypointref01_Bits_l1 : C := .loop F_waypointref01_Bits_b1
def F_waypointref01_Bits_k1 : C := (.seq (.reg [⟨some 38, none, [], [], .mov (.t 3)⟩, ⟨some 2, none, [], [], .mov (.t 38)⟩]) .ret)
def F_waypointref01_Bits : C := (.seq (.reg [⟨some 2, none, [], [], .mov (.k (.sc (.int .i64 0)))⟩]) (.seq (.reg [⟨some 3, none, [], [], .mov (.k (.sc (.int .i64 0)))⟩]) (.seq (.block 0 F_waypointref01_Bits_l1) F_waypointref01_Bits_k1)))
def R_waypointref01_Bits : List RV := [.t 2]
theorem C_waypointref01_Bits : (chkC Tryz.prog Tryz.f19.ntmps F_waypointref01_Bits (Tryz.f19.body.getD .skip) && chkRVs Tryz.prog R_waypointref01_Bits Tryz.f19.results.toList && decide (R_waypointref01_Bits.length ≤ 4) && decide (1 ≤ Tryz.f19.ntmps)) = true := by kernel_rfl
theorem W_waypointref01_Bits {X : Ctx} (hP : X.P = Tryz.prog) {args : List V} {r : V} (hn : args.length = 1) (h : wpC X F_waypointref01_Bits (retQ R_waypointref01_Bits [] fun H e => H = noH ∧ e = .v r) ⟨argE 0 (args.map .v), noH⟩) : Fn X 19 args r := fn_of hP Tryz.func19 rfl C_waypointref01_Bits hn h
def F_waypointref01_Add_b0 : C := (.keep [0, 1, 5, 6] [100] (.seq (.seq (.reg [⟨some 14, none, [], [], .mov (.t 6)⟩, ⟨some 15, none, [], [], .mov (.t 0)⟩, ⟨some 16, none, [], [], .len false (.t 15)⟩, ⟨some 17, none, [], [], .bin .lss (.t 14) (.t 16)⟩]) (.cond (.t 17) .skip (.exit 0))) (.seq (.block 1 (.reg [⟨some 20, none, [], [], .mov (.t 5)⟩, ⟨some 21, none, [], [], .mov (.t 6)⟩, ⟨some 22, none, [], [], .ia 1 (.t 20) (.t 21)⟩, ⟨some 23, none, [], [], .ld 1 false (.t 22)⟩, ⟨some 24, none, [], [], .mov (.t 0)⟩, ⟨some 25, none, [], [], .mov (.t 6)⟩, ⟨some 26, none, [100], [], .ia 1 (.t 24) (.t 25)⟩, ⟨some 27, none, [100], [], .ld 1 false (.t 26)⟩, ⟨some 28, none, [], [], .bin .add (.t 23) (.t 27)⟩, ⟨some 29, none, [], [], .ia 1 (.t 20) (.t 21)⟩, ⟨none, none, [], [], .st 1 [100] (.t 29) (.t 28)⟩])) (.reg [⟨some 18, none, [], [], .mov (.t 6)⟩, ⟨some 19, none, [], [], .bin .add (.t 18) (.k (.sc (.int .i64 1)))⟩, ⟨some 6, none, [], [], .mov (.t 19)⟩]))))
def F_waypointref01_Add_l0 : C := .loop F_waypointref01_Add_b0
def F_waypointref01_Add_b1 : C := (.keep [1, 5, 7] [100] (.seq (.seq (.reg [⟨some 30, none, [], [], .mov (.t 7)⟩, ⟨some 31, none, [], [], .mov (.t 1)⟩, ⟨some 32, none, [], [], .len false (.t 31)⟩, ⟨some 33, none, [], [], .bin .lss (.t 30) (.t 32)⟩]) (.cond (.t 33) .skip (.exit 2))) (.seq (.block 3 (.reg [⟨some 36, none, [], [], .mov (.t 5)⟩, ⟨some 37, none, [], [], .mov (.t 7)⟩, ⟨some 38, none, [], [], .ia 1 (.t 36) (.t 37)⟩, ⟨some 39, none, [], [], .ld 1 false (.t 38)⟩, ⟨some 40, none, [], [], .mov (.t 1)⟩, ⟨some 41, none, [], [], .mov (.t 7)⟩, ⟨some 42, none, [100], [], .ia 1 (.t 40) (.t 41)⟩, ⟨some 43, none, [100], [], .ld 1 false (.t 42)⟩, ⟨some 44, none, [], [], .bin .add (.t 39) (.t 43)⟩, ⟨some 45, none, [], [], .ia 1 (.t 36) (.t 37)⟩, ⟨none, none, [], [], .st 1 [100] (.t 45) (.t 44)⟩])) (.reg [⟨some 34, none, [], [], .mov (.t 7)⟩, ⟨some 35, none, [], [], .bin .add (.t 34) (.k (.sc (.int .i64 1)))⟩, ⟨some 7, none, [], [], .mov (.t 35)⟩]))))
def F_waypointref01_Add_l1 : C := .loop F_waypointref01_Add_b1
def F_waypointref01_Add_k0 : C := (.seq (.reg [⟨some 46, none, [], [], .mov (.t 5)⟩, ⟨some 47, none, [], [100], .cp 45 [(.t 46)]⟩, ⟨some 4, none, [], [], .mov (.t 47)⟩]) .ret)
def F_waypointref01_Add_k1 : C := (.seq (.seq (.reg [⟨some 7, none, [], [], .mov (.k (.sc (.int .i64 0)))⟩]) (.block 2 F_waypointref01_Add_l1)) F_waypointref01_Add_k0)
def F_waypointref01_Add : C := (.seq (.reg [⟨some 4, none, [], [], .mov (.k (.sl 1 []))⟩]) (.seq (.reg [⟨some 8, none, [], [], .mov (.t 0)⟩, ⟨some 9, none, [], [], .len false (.t 8)⟩, ⟨some 10, none, [], [], .mov (.t 1)⟩, ⟨some 11, none, [], [], .len false (.t 10)⟩, ⟨some 12, none, [], [], .mm true (.t 9) (.t 11)⟩, ⟨some 13, none, [], [], .mk 100 3 1 8 [(.sc (.int .i64 0))] (.t 12) (.t 12)⟩, ⟨some 5, none, [], [], .mov (.t 13)⟩]) (.seq (.seq (.reg [⟨some 6, none, [], [], .mov (.k (.sc (.int .i64 0)))⟩]) (.block 0 F_waypointref01_Add_l0)) F_waypointref01_Add_k1)))
def R_waypointref01_Add : List RV := [.t 4]
theorem C_waypointref01_Add : (chkC Tryz.prog Tryz.f24.ntmps F_waypointref01_Add (Tryz.f24.body.getD .skip) && chkRVs Tryz.prog R_waypointref01_Add Tryz.f24.results.toList && decide (R_waypointref01_Add.length ≤ 4) && decide (2 ≤ Tryz.f24.ntmps)) = true := by kernel_rfl
theorem W_waypointref01_Add {X : Ctx} (hP : X.P = Tryz.prog) {args : List V} {r : V} (hn : args.length = 2) (h : wpC X F_waypointref01_Add (retQ R_waypointref01_Add [] fun H e => H = noH ∧ e = .v r) ⟨argE 0 (args.map .v), noH⟩) : Fn X 24 args r := fn_of hP Tryz.func24 rfl C_waypointref01_Add hn h
def F_waypointref01_Make_b0 : C := (.keep [0, 3, 4] [] (.seq (.seq (.reg [⟨some 6, none, [], [], .mov (.t 4)⟩, ⟨some 7, none, [], [], .mov (.t 0)⟩, ⟨some 8, none, [], [], .len false (.t 7)⟩, ⟨some 9, none, [], [], .bin .lss (.t 6) (.t 8)⟩]) (.cond (.t 9) .skip (.exit 0))) (.seq (.block 1 (.reg [⟨some 12, none, [], [], .mov (.t 3)⟩, ⟨some 13, none, [], [], .cp 40 [(.t 12), (.k (.sc (.int .i64 4294967296)))]⟩, ⟨some 14, none, [], [], .mov (.t 0)⟩, ⟨some 15, none, [], [], .mov (.t 0)⟩, ⟨some 16, none, [], [], .len false (.t 15)⟩, ⟨some 17, none, [], [], .bin .sub (.t 16) (.k (.sc (.int .i64 1)))⟩, ⟨some 18, none, [], [], .mov (.t 4)⟩, ⟨some 19, none, [], [], .bin .sub (.t 17) (.t 18)⟩, ⟨some 20, none, [], [], .ia 1 (.t 14) (.t 19)⟩, ⟨some 21, none, [], [], .ld 1 false (.t 20)⟩, ⟨some 22, none, [], [], .cv .u64 (.t 21)⟩, ⟨some 23, none, [], [], .cp 17 [(.t 22)]⟩, ⟨some 24, none, [], [], .cp 24 [(.t 13), (.t 23)]⟩, ⟨some 3, none, [], [], .mov (.t 24)⟩])) (.reg [⟨some 10, none, [], [], .mov (.t 4)⟩, ⟨some 11, none, [], [], .bin .add (.t 10) (.k (.sc (.int .i64 1)))⟩, ⟨some 4, none, [], [], .mov (.t 11)⟩]))))
def F_waypointref01_Make_l0 : C := .loop F_waypointref01_Make_b0
def F_waypointref01_Make_k0 : C := (.seq (.reg [⟨some 25, none, [], [], .mov (.t 3)⟩, ⟨some 2, none, [], [], .mov (.t 25)⟩]) (.frz 100 .ret))
def F_waypointref01_Make : C := (.seq (.reg [⟨some 2, none, [], [], .mov (.k (.sl 1 []))⟩]) (.seq (.reg [⟨some 5, none, [], [], .bs 100 3 1 0 []⟩, ⟨some 3, none, [], [], .mov (.t 5)⟩]) (.seq (.seq (.reg [⟨some 4, none, [], [], .mov (.k (.sc (.int .i64 0)))⟩]) (.block 0 (.frz 100 F_waypointref01_Make_l0))) F_waypointref01_Make_k0)))
def R_waypointref01_Make : List RV := [.t 2]
theorem C_waypointref01_Make : (chkC Tryz.prog Tryz.f30.ntmps F_waypointref01_Make (Tryz.f30.body.getD .skip) && chkRVs Tryz.prog R_waypointref01_Make Tryz.f30.results.toList && decide (R_waypointref01_Make.length ≤ 4) && decide (1 ≤ Tryz.f30.ntmps)) = true := by kernel_rfl
theorem W_waypointref01_Make {X : Ctx} (hP : X.P = Tryz.prog) {args : List V} {r : V} (hn : args.length = 1) (h : wpC X F_waypointref01_Make (retQ R_waypointref01_Make [] fun H e => H = noH ∧ e = .v r) ⟨argE 0 (args.map .v), noH⟩) : Fn X 30 args r := fn_of hP Tryz.func30 rfl C_waypointref01_Make hn h
def F_waypointref01_Text_b0 : C := (.keep [0, 3, 4, 5, 6] [] (.seq (.seq (.reg [⟨some 20, none, [], [], .mov (.t 6)⟩, ⟨some 21, none, [], [], .bin .lss (.t 20) (.k (.sc (.int .i64 6)))⟩, ⟨some 22, none, [], [], .mov (.t 21)⟩, ⟨some 23, (some (22, true)), [], [], .mov (.t 4)⟩, ⟨some 24, (some (22, true)), [], [], .mov (.t 0)⟩, ⟨some 25, (some (22, true)), [], [], .len false (.t 24)⟩, ⟨some 26, (some (22, true)), [], [], .bin .sub (.t 25) (.k (.sc (.int .i64 1)))⟩, ⟨some 27, (some (22, true)), [], [], .bin .lss (.t 23) (.t 26)⟩, ⟨some 28, (some (22, true)), [], [], .mov (.t 27)⟩, ⟨some 29, (some (28, false)), [], [], .mov (.t 5)⟩, ⟨some 30, (some (28, false)), [], [], .bin .gtr (.t 29) (.k (.sc (.int .i64 0)))⟩, ⟨some 31, (some (22, true)), [], [], .pk (.t 28) (.k (.sc (.bool true))) (.t 30)⟩, ⟨some 32, none, [], [], .pk (.t 22) (.t 31) (.k (.sc (.bool false)))⟩]) (.cond (.t 32) .skip (.exit 2))) (.seq (.block 3 (.seq (.reg [⟨some 35, none, [], [], .mov (.t 5)⟩, ⟨some 36, none, [], [], .bin .rem (.t 35) (.k (.sc (.int .i64 10)))⟩, ⟨some 37, none, [], [], .bin .add (.k (.sc (.int .i64 48))) (.t 36)⟩, ⟨some 38, none, [], [], .cv .u8 (.t 37)⟩, ⟨some 39, none, [], [], .bs 100 5 1 1 [(.t 38)]⟩, ⟨some 40, none, [], [], .g1 .b2s [(.t 39)]⟩, ⟨some 41, none, [], [], .mov (.t 3)⟩, ⟨some 42, none, [], [], .bin .add (.t 40) (.t 41)⟩, ⟨some 3, none, [], [], .mov (.t 42)⟩]) (.reg [⟨some 43, none, [], [], .mov (.t 5)⟩, ⟨some 44, none, [], [], .bin .quo (.t 43) (.k (.sc (.int .i64 10)))⟩, ⟨some 5, none, [], [], .mov (.t 44)⟩]))) (.reg [⟨some 33, none, [], [], .mov (.t 6)⟩, ⟨some 34, none, [], [], .bin .add (.t 33) (.k (.sc (.int .i64 1)))⟩, ⟨some 6, none, [], [], .mov (.t 34)⟩]))))
def F_waypointref01_Text_l0 : C := .loop F_waypointref01_Text_b0
def F_waypointref01_Text_k0 : C := (.reg [⟨some 14, none, [], [], .mov (.t 4)⟩, ⟨some 15, none, [], [], .bin .add (.t 14) (.k (.sc (.int .i64 1)))⟩, ⟨some 4, none, [], [], .mov (.t 15)⟩])
def F_waypointref01_Text_b1 : C := (.keep [0, 3, 4] [] (.seq (.seq (.reg [⟨some 10, none, [], [], .mov (.t 4)⟩, ⟨some 11, none, [], [], .mov (.t 0)⟩, ⟨some 12, none, [], [], .len false (.t 11)⟩, ⟨some 13, none, [], [], .bin .lss (.t 10) (.t 12)⟩]) (.cond (.t 13) .skip (.exit 0))) (.seq (.block 1 (.seq (.reg [⟨some 16, none, [], [], .mov (.t 0)⟩, ⟨some 17, none, [], [], .mov (.t 4)⟩, ⟨some 18, none, [], [], .ia 1 (.t 16) (.t 17)⟩, ⟨some 19, none, [], [], .ld 1 false (.t 18)⟩, ⟨some 5, none, [], [], .mov (.t 19)⟩]) (.seq (.reg [⟨some 6, none, [], [], .mov (.k (.sc (.int .i64 0)))⟩]) (.block 2 F_waypointref01_Text_l0)))) F_waypointref01_Text_k0)))
def F_waypointref01_Text_l1 : C := .loop F_waypointref01_Text_b1
def F_waypointref01_Text_k1 : C := (.seq (.reg [⟨some 45, none, [], [], .mov (.t 3)⟩, ⟨some 2, none, [], [], .mov (.t 45)⟩]) .ret)
def F_waypointref01_Text : C := (.seq (.reg [⟨some 2, none, [], [], .mov (.k (.sc (.string ⟨#[]⟩)))⟩]) (.seq (.seq (.reg [⟨some 7, none, [], [], .mov (.t 0)⟩, ⟨some 8, none, [], [], .len false (.t 7)⟩, ⟨some 9, none, [], [], .bin .eql (.t 8) (.k (.sc (.int .i64 0)))⟩]) (.cond (.t 9) (.seq (.reg [⟨some 2, none, [], [], .mov (.k (.sc (.string ⟨#[48]⟩)))⟩]) .ret) .skip)) (.seq (.reg [⟨some 3, none, [], [], .mov (.k (.sc (.string ⟨#[]⟩)))⟩]) (.seq (.seq (.reg [⟨some 4, none, [], [], .mov (.k (.sc (.int .i64 0)))⟩]) (.block 0 F_waypointref01_Text_l1)) F_waypointref01_Text_k1))))
def R_waypointref01_Text : List RV := [.t 2]
theorem C_waypointref01_Text : (chkC Tryz.prog Tryz.f31.ntmps F_waypointref01_Text (Tryz.f31.body.getD .skip) && chkRVs Tryz.prog R_waypointref01_Text Tryz.f31.results.toList && decide (R_waypointref01_Text.length ≤ 4) && decide (1 ≤ Tryz.f31.ntmps)) = true := by kernel_rfl
theorem W_waypointref01_Text {X : Ctx} (hP : X.P = Tryz.prog) {args : List V} {r : V} (hn : args.length = 1) (h : wpC X F_waypointref01_Text (retQ R_waypointref01_Text [] fun H e => H = noH ∧ e = .v r) ⟨argE 0 (args.map .v), noH⟩) : Fn X 31 args r := fn_of hP Tryz.func31 rfl C_waypointref01_Text hn h
end Go.Proofs.YtmjkhbjfacfmcaaGreatDoor.VX
end
section
namespace Go.Proofs.YtmjkhbjfacfmcaaGreatDoor.RV
set_option linter.unusedVariables false
set_option linter.unusedSimpArgs false
open Go Go.RowKit Go.Proofs.YtmjkhbjfacfmcaaGreatDoor.NM Go.Proofs.YtmjkhbjfacfmcaaGreatDoor.NT IntWalk
theorem asc (a b : Int) : a + b - a = b := by omega
theorem strip6 {l : List Int} (h : Dig 1000000 l) : strip l = dg 1000000 (vl 1000000 l).toNat := strip_dg (B := 1000000) (by omega) h
theorem vl6 (n : Nat) : vl 1000000 (dg 1000000 n) = (n : Int) := vl_dg (B := 1000000) (by omega) n
theorem dig6 (n : Nat) : Dig 1000000 (dg 1000000 n) := dig_dg (B := 1000000) (by omega) n
def Big (l : List Int) : Prop := ∀ x ∈ l, 0 ≤ x ∧ x ≤ 9000000000000000000
theorem Big.rd {l : List Int} (h : Big l) (i : Nat) : 0 ≤ rd l (i : Int) ∧ rd l (i : Int) ≤ 9000000000000000000 := by
  rcases Nat.lt_or_ge i l.length with h1 | h1
  · rw [rd_nat _ _ h1]; exact h _ (List.getElem_mem h1)
  · rw [rd_out _ _ h1]; omega
theorem alg_carry {P s q x : Int} (e : s = x + 1000000 * q) : P * x + P * 1000000 * q = P * s := by
  subst e
  grind
theorem vl_snoc (B : Int) (l : List Int) (x : Int) : vl B (l ++ [x]) = vl B l + B ^ l.length * x := by rw [vl_append]; simp [vl]
theorem dg6_len {c : Int} (c1 : c ≤ 5000000000000000) : (dg 1000000 c.toNat).length ≤ 3 := dg_length (by omega) (by omega)
def num (l : List Int) : Nat := (vl 4294967296 l).toNat
theorem num_lt {l : List Int} (hl : Dig 4294967296 l) : num l < 4294967296 ^ l.length := by
  have h := vl_lt (by omega) hl
  have h0 := vl_nonneg (by omega) hl
  have e : ((4294967296 : Int) ^ l.length) = ((4294967296 ^ l.length : Nat) : Int) := pow_cast 4294967296 _
  unfold num
  rw [e] at h
  omega
def sh (f : Nat → Int) : Nat → Int
  | 0 => 0
  | k + 1 => f k
def cv : List Int → List Int → Nat → Int
  | [], _ => fun _ => 0
  | x :: a, b => fun k => x * rd b (k : Int) + sh (cv a b) k
def padr : Nat → Nat → List UInt8
  | 0, _ => []
  | r + 1, g => padr r (g / 10) ++ [UInt8.ofNat (48 + g % 10)]
theorem padr_eq : ∀ (k g : Nat), g < 10 ^ k → padr k g = List.replicate (k - (dec g).length) 48 ++ dec g
  | 0, g, h => by
    have : g = 0 := by simpa using h
    subst this
    rw [dec_zero]; rfl
  | k + 1, g, h => by
    have hk : g / 10 < 10 ^ k := by rw [Nat.pow_succ] at h; omega
    rw [padr, padr_eq k (g / 10) hk]
    rcases Nat.eq_zero_or_pos g with h0 | h0
    · subst h0
      rw [show 0 / 10 = 0 from rfl, dec_zero]
      simp only [List.length_nil, Nat.sub_zero, List.append_nil]
      rw [List.replicate_succ']
      rfl
    · rw [dec_step g h0, List.length_append, List.length_singleton, Nat.add_sub_add_right, List.append_assoc]
end Go.Proofs.YtmjkhbjfacfmcaaGreatDoor.RV
end
