/- Of, Uint64, Bits and IsZero return the specified results for all numbers of 64 bits, and for numbers of up to 12 digits of 32 bits. This is part 1 of the proof: texts joined in order (V0 V1 V2 V3 V4 V5 V6 V7 V8 V9 VA VB VC VD VE VO). Conditions: each theorem's own. -/
import Derived.Test.YtmjkhbjfacfmcaaGreatDoorYb0
import Derived.WalkKit
import Derived.Orders
import Derived.OrdersHeld
import Derived.Below
import Derived.Laws.AppendOwn
import Derived.Laws.OwnMore
import Derived.Laws.MakeOwn
import Derived.Laws.Rows
import Derived.Laws.Tables
import Derived.Laws.CopyRow
import Derived.RowKit3
import Derived.KernelRfl
import Derived.Laws.Bits
import Derived.Laws.Slices
import Derived.Laws.Small
import Derived.Laws.StructEq
import Derived.Great.BuildSlice
section
namespace Go.Proofs.YtmjkhbjfacfmcaaGreatDoor.VX
open Go Go.RowKit
set_option linter.unusedVariables false
set_option linter.unusedSimpArgs false
inductive V where
  | sc (v : Value)
  | st (cs : List V)
  | tu (vs : List V)
  | sl (sz : Nat) (l : List (List V))
  | pt (cs : List V)
  | cl (fn : Fn) (a b : List V)
  | ni
  deriving Inhabited
inductive E where
  | v (x : V)
  | os (id lo n : Nat)
  | op (id j f : Nat)
  | ag (cs : List E)
  | tu (vs : List E)
  | cl (fn : Fn) (a b : List E)
  | dead
  deriving Inhabited
inductive Blk where
  | p (e sz : Nat) (l : List (List V))
  | m (e : Nat) (cs : List E)
  deriving Inhabited
def Blk.len : Blk → Nat
  | .p _ _ l => l.length
  | .m _ _ => 1
structure Pl where
  b : Nat
  off : Nat
  sz : Nat
  cap : Nat
inductive RepV (w : World) (ok : Nat → Prop) : V → Value → Prop where
  | sc (v : Value) : RepV w ok (.sc v) v
  | st (cs : List V) (us : Array Value) (h0 : us.size = cs.length) (h1 : ∀ u ∈ us.toList, u.oneCell' = true)
      (h : ∀ (i : Nat) x u, cs[i]? = some x → us[i]? = some u → RepV w ok x u) : RepV w ok (.st cs) (.agg us)
  | tu (cs : List V) (us : Array Value) (h0 : us.size = cs.length)
      (h : ∀ (i : Nat) x u, cs[i]? = some x → us[i]? = some u → RepV w ok x u) : RepV w ok (.tu cs) (.tuple us)
  | sn (sz : Nat) : RepV w ok (.sl sz []) (.slice none 0 0)
  | sl (sz : Nat) (l : List (List V)) (a : Addr) (n c : Nat) (h0 : l.length = n) (h1 : n ≤ c) (h2 : c ≤ maxLen) (h3 : ∀ r ∈ l, r.length = sz) (ha : 0 < n → ok a.block)
      (u : Nat → Nat → Value) (hc : ∀ (j f : Nat) r x, l[j]? = some r → r[f]? = some x → w.cell? (a.add (j * sz + f)) = some (u j f) ∧ (u j f).oneCell' = true)
      (h : ∀ (j f : Nat) r x, l[j]? = some r → r[f]? = some x → RepV w ok x (u j f)) : RepV w ok (.sl sz l) (.slice (some a) n c)
  | pt (cs : List V) (a : Addr) (ha : ok a.block) (u : Nat → Value) (hc : ∀ (f : Nat) x, cs[f]? = some x → w.cell? (a.add f) = some (u f) ∧ (u f).oneCell' = true)
      (h : ∀ (f : Nat) x, cs[f]? = some x → RepV w ok x (u f)) : RepV w ok (.pt cs) (.pointer (some a))
  | cl (fn : Fn) (a b : List V) (us vs : Array Value) (h0 : us.size = a.length) (h1 : vs.size = b.length)
      (h : ∀ (i : Nat) x u, a[i]? = some x → us[i]? = some u → RepV w ok x u) (k : ∀ (i : Nat) x u, b[i]? = some x → vs[i]? = some u → RepV w ok x u) : RepV w ok (.cl fn a b) (.func fn us vs)
  | ni (t : TypeId) (u : Value) : RepV w ok .ni (.iface t u)
inductive RepE (w : World) (ok : Nat → Prop) (φ : Nat → Option Pl) (ln : Nat → Option Nat) : E → Value → Prop where
  | v (x : V) (u : Value) (h : RepV w ok x u) : RepE w ok φ ln (.v x) u
  | dead (u : Value) : RepE w ok φ ln .dead u
  | osn (id L : Nat) (hl : ln id = some L) (hp : φ id = none) : RepE w ok φ ln (.os id 0 0) (.slice none 0 0)
  | os (id lo n : Nat) (a : Addr) (c : Nat) (pl : Pl) (L : Nat) (hl : ln id = some L) (hp : φ id = some pl) (h1 : lo + n ≤ L) (h2 : n ≤ c) (h3 : lo + c ≤ pl.cap)
      (ha : 0 < c → a = ⟨pl.b, pl.off + lo * pl.sz, none⟩) : RepE w ok φ ln (.os id lo n) (.slice (some a) n c)
  | op (id j f : Nat) (pl : Pl) (L : Nat) (hl : ln id = some L) (hp : φ id = some pl) (hj : j < L) (hf : f < pl.sz) :
      RepE w ok φ ln (.op id j f) (.pointer (some ⟨pl.b, pl.off + (j * pl.sz + f), none⟩))
  | ag (cs : List E) (us : Array Value) (h0 : us.size = cs.length) (h1 : ∀ u ∈ us.toList, u.oneCell' = true)
      (h : ∀ (i : Nat) x u, cs[i]? = some x → us[i]? = some u → RepE w ok φ ln x u) : RepE w ok φ ln (.ag cs) (.agg us)
  | tu (cs : List E) (us : Array Value) (h0 : us.size = cs.length)
      (h : ∀ (i : Nat) x u, cs[i]? = some x → us[i]? = some u → RepE w ok φ ln x u) : RepE w ok φ ln (.tu cs) (.tuple us)
  | cl (fn : Fn) (a b : List E) (us vs : Array Value) (h0 : us.size = a.length) (h1 : vs.size = b.length)
      (h : ∀ (i : Nat) x u, a[i]? = some x → us[i]? = some u → RepE w ok φ ln x u) (k : ∀ (i : Nat) x u, b[i]? = some x → vs[i]? = some u → RepE w ok φ ln x u) : RepE w ok φ ln (.cl fn a b) (.func fn us vs)
mutual
                                              
def E.ids (p : Nat → Bool) : E → Bool
  | .v _ => true
  | .dead => true
  | .os i _ _ => p i
  | .op i _ _ => p i
  | .ag cs => idsL p cs
  | .tu cs => idsL p cs
  | .cl _ a b => idsL p a && idsL p b
def idsL (p : Nat → Bool) : List E → Bool
  | [] => true
  | x :: l => x.ids p && idsL p l
end
theorem idsL_get {p : Nat → Bool} : ∀ {l : List E}, idsL p l = true → ∀ (i : Nat) x, l[i]? = some x → x.ids p = true
  | [], _, i, x, hx => by simp at hx
  | y :: l, h, 0, x, hx => by
    rw [idsL, Bool.and_eq_true] at h
    obtain rfl : y = x := by simpa using hx
    exact h.1
  | y :: l, h, i + 1, x, hx => by
    rw [idsL, Bool.and_eq_true] at h
    exact idsL_get h.2 i x (by simpa using hx)
theorem RepV.mono {w w' : World} {ok ok' : Nat → Prop} (h : ∀ b, ok b → ok' b ∧ w'.heap[b]? = w.heap[b]?) {x : V} {u : Value} (r : RepV w ok x u) : RepV w' ok' x u := by
  have hcell : ∀ (a : Addr) (k : Nat), ok a.block → w'.cell? (a.add k) = w.cell? (a.add k) := fun a k ha =>
    World.cell?_of_block (w := w) (by have e : (a.add k).block = a.block := by (unfold Addr.add; split <;> rfl)
                                      rw [e]; exact (h _ ha).2)
  induction r with
  | sc v => exact .sc v
  | st cs us h0 h1 _ ih => exact .st cs us h0 h1 ih
  | tu cs us h0 _ ih => exact .tu cs us h0 ih
  | sn sz => exact .sn sz
  | sl sz l a n c h0 h1 h2 h3 ha u hc _ ih =>
    refine .sl sz l a n c h0 h1 h2 h3 (fun hn => (h _ (ha hn)).1) u (fun j f r x hj hf => ?_) ih
    have hn : 0 < n := by have := (List.getElem?_eq_some_iff.1 hj).1; omega
    rw [hcell a _ (ha hn)]
    exact hc j f r x hj hf
  | pt cs a ha u hc _ ih => exact .pt cs a (h _ ha).1 u (fun f x hf => by rw [hcell a _ ha]; exact hc f x hf) ih
  | cl fn a b us vs h0 h1 _ _ ih ik => exact .cl fn a b us vs h0 h1 ih ik
  | ni t u => exact .ni t u
theorem RepE.mono {w w' : World} {ok ok' : Nat → Prop} {φ φ' : Nat → Option Pl} {ln ln' : Nat → Option Nat} (p : Nat → Bool) (h : ∀ b, ok b → ok' b ∧ w'.heap[b]? = w.heap[b]?)
    (hi : ∀ id L, p id = true → ln id = some L → ln' id = some L ∧ φ' id = φ id) {e : E} {u : Value} (r : RepE w ok φ ln e u) (he : e.ids p = true) : RepE w' ok' φ' ln' e u := by
  induction r with
  | v x u hv => exact .v x u (hv.mono h)
  | dead u => exact .dead u
  | osn id L hl hp =>
    obtain ⟨a, b⟩ := hi id L he hl
    exact .osn id L a (b.trans hp)
  | os id lo n a c pl L hl hp h1 h2 h3 ha =>
    obtain ⟨x, b⟩ := hi id L he hl
    exact .os id lo n a c pl L x (b.trans hp) h1 h2 h3 ha
  | op id j f pl L hl hp hj hf =>
    obtain ⟨x, b⟩ := hi id L he hl
    exact .op id j f pl L x (b.trans hp) hj hf
  | ag cs us h0 h1 _ ih => exact .ag cs us h0 h1 fun i x u hx hu => ih i x u hx hu (idsL_get he i x hx)
  | tu cs us h0 _ ih => exact .tu cs us h0 fun i x u hx hu => ih i x u hx hu (idsL_get he i x hx)
  | cl fn a b us vs h0 h1 _ _ ih ik =>
    rw [E.ids, Bool.and_eq_true] at he
    exact .cl fn a b us vs h0 h1 (fun i x u hx hu => ih i x u hx hu (idsL_get he.1 i x hx)) (fun i x u hx hu => ik i x u hx hu (idsL_get he.2 i x hx))
mutual
theorem E.ids_true : ∀ e : E, e.ids (fun _ => true) = true
  | .v _ => rfl
  | .dead => rfl
  | .os _ _ _ => rfl
  | .op _ _ _ => rfl
  | .ag cs => idsL_true cs
  | .tu cs => idsL_true cs
  | .cl _ a b => by rw [E.ids, idsL_true a, idsL_true b]; rfl
theorem idsL_true : ∀ l : List E, idsL (fun _ => true) l = true
  | [] => rfl
  | x :: l => by rw [idsL, E.ids_true x, idsL_true l]; rfl
end
theorem RepE.mono' {w w' : World} {ok ok' : Nat → Prop} {φ φ' : Nat → Option Pl} {ln ln' : Nat → Option Nat} (h : ∀ b, ok b → ok' b ∧ w'.heap[b]? = w.heap[b]?)
    (hi : ∀ id L, ln id = some L → ln' id = some L ∧ φ' id = φ id) {e : E} {u : Value} (r : RepE w ok φ ln e u) : RepE w' ok' φ' ln' e u :=
  r.mono (fun _ => true) h (fun id L _ hl => hi id L hl) e.ids_true
abbrev Env := Nat → E
abbrev Heap := Nat → Option Blk
structure St where
  env : Env
  heap : Heap
def lnOf (h : Heap) (id : Nat) : Option Nat := (h id).map Blk.len
def RepB (w : World) (ok : Nat → Prop) (φ : Nat → Option Pl) (ln : Nat → Option Nat) (id : Nat) : Blk → Prop
  | .p e sz l => 0 < sz ∧ ((φ id = none ∧ l = []) ∨ ∃ pl cur, φ id = some pl ∧ pl.sz = sz ∧ l.length ≤ pl.cap ∧ pl.cap ≤ maxLen ∧ (∀ r ∈ l, r.length = sz) ∧ w.heap[pl.b]? = some (.cells cur e (0, 0)) ∧ pl.off + pl.cap * sz ≤ cur.size ∧
      ∀ (j f : Nat) r x, l[j]? = some r → r[f]? = some x → ∃ u, cur[pl.off + (j * sz + f)]? = some u ∧ u.oneCell' = true ∧ RepV w ok x u)
  | .m e cs => ∃ pl cur, φ id = some pl ∧ pl.off = 0 ∧ pl.sz = cs.length ∧ pl.cap = 1 ∧ w.heap[pl.b]? = some (.cells cur e (0, 0)) ∧ cur.size = cs.length ∧
      ∀ (f : Nat) x, cs[f]? = some x → ∃ u, cur[f]? = some u ∧ u.oneCell' = true ∧ RepE w ok φ ln x u
def okOf (w0 : World) (ok0 : Nat → Prop) (φ : Nat → Option Pl) (heap : Heap) (w : World) (b : Nat) : Prop :=
  (ok0 b ∨ w0.heap.size ≤ b) ∧ b < w.heap.size ∧ ∀ id pl, (heap id).isSome = true → φ id = some pl → pl.b ≠ b
structure HRep (w0 : World) (mine : Nat → Prop) (ok0 : Nat → Prop) (φ : Nat → Option Pl) (heap : Heap) (w : World) : Prop where
  blk : ∀ id b, heap id = some b → RepB w (okOf w0 ok0 φ heap w) φ (lnOf heap) id b
  inj : ∀ id id' pl pl', (heap id).isSome = true → (heap id').isSome = true → φ id = some pl → φ id' = some pl' → pl.b = pl'.b → id = id'
  own : ∀ id pl, (heap id).isSome = true → φ id = some pl → pl.b < w.heap.size ∧ (w0.heap.size ≤ pl.b ∨ (mine pl.b ∧ id < 100))
  old : ∀ b, b < w0.heap.size → ¬ mine b → w.heap[b]? = w0.heap[b]?
  os : w.os = w0.os
  tape : w.tape = w0.tape
  output : w.output = w0.output
  size : w0.heap.size ≤ w.heap.size
  ok0 : ∀ b, ok0 b → b < w0.heap.size ∧ ¬ mine b
theorem RepB.mono {w w' : World} {ok ok' : Nat → Prop} {φ φ' : Nat → Option Pl} {ln ln' : Nat → Option Nat} {id : Nat} {b : Blk}
    (h : ∀ b, ok b → ok' b ∧ w'.heap[b]? = w.heap[b]?) (hi : ∀ id L, ln id = some L → ln' id = some L ∧ φ' id = φ id)
    (hp : φ' id = φ id) (hb : ∀ pl, φ id = some pl → w'.heap[pl.b]? = w.heap[pl.b]?) (r : RepB w ok φ ln id b) : RepB w' ok' φ' ln' id b := by
  cases b with
  | p e sz l =>
    obtain ⟨h0, h1⟩ := r
    refine ⟨h0, ?_⟩
    rcases h1 with ⟨h1, h2⟩ | ⟨pl, cur, h1, h2, h3, h4, h5, h6, h7, h8⟩
    · exact .inl ⟨hp.trans h1, h2⟩
    · refine .inr ⟨pl, cur, hp.trans h1, h2, h3, h4, h5, (hb pl h1).trans h6, h7, fun j f r x hj hf => ?_⟩
      obtain ⟨u, hu, h9, h10⟩ := h8 j f r x hj hf
      exact ⟨u, hu, h9, h10.mono h⟩
  | m e cs =>
    obtain ⟨pl, cur, h1, h2, h3, h4, h5, h6, h7⟩ := r
    refine ⟨pl, cur, hp.trans h1, h2, h3, h4, (hb pl h1).trans h5, h6, fun f x hf => ?_⟩
    obtain ⟨u, hu, h9, h10⟩ := h7 f x hf
    exact ⟨u, hu, h9, h10.mono' h hi⟩
def upd {α : Type} (g : Nat → α) (i : Nat) (x : α) (j : Nat) : α := if j = i then x else g j
theorem upd_same {α : Type} (g : Nat → α) (i : Nat) (x : α) : upd g i x i = x := by simp [upd]
theorem upd_ne {α : Type} (g : Nat → α) (i : Nat) (x : α) {j : Nat} (h : j ≠ i) : upd g i x j = g j := by simp [upd, h]
theorem upd_comm {α : Type} (g : Nat → α) {i j : Nat} (x y : α) (h : i ≠ j) : upd (upd g i x) j y = upd (upd g j y) i x := by
  funext k
  simp only [upd]
  split
  · split
    · omega
    · rfl
  · rfl
def St.put (S : St) (d : Option Nat) (e : E) : St :=
  match d with
  | some d => { S with env := upd S.env d e }
  | none => S
end Go.Proofs.YtmjkhbjfacfmcaaGreatDoor.VX
end
section
namespace Go.Proofs.YtmjkhbjfacfmcaaGreatDoor.VX
open Go Go.RowKit
set_option linter.unusedVariables false
set_option linter.unusedSimpArgs false
inductive O where
  | t (n : Nat)
  | k (x : V)
  | f (f : Nat)
  deriving Inhabited
def evO (env : Env) : O → E
  | .t n => env n
  | .k x => .v x
  | .f f => .v (.sc (.func (.func f) #[] #[]))
def scEq : Value → Value → Bool
  | .bool a, .bool b => a == b
  | .int k a, .int k' b => k == k' && a == b
  | .string a, .string b => a.data == b.data
  | .pointer none, .pointer none => true
  | .map none, .map none => true
  | .nilFunc, .nilFunc => true
  | .nilIface, .nilIface => true
  | _, _ => false
theorem scEq_spec {a b : Value} (h : scEq a b = true) : a = b := by
  unfold scEq at h
  split at h
  case h_3 a b => cases a; cases b; simp_all
  all_goals simp_all
def isNil : Value → Bool
  | .slice none 0 0 => true
  | _ => false
theorem isNil_spec {v : Value} (h : isNil v = true) : v = .slice none 0 0 := by
  unfold isNil at h
  split at h
  · rfl
  · cases h
def aggCells : Value → Option (List Value)
  | .agg us => some us.toList
  | _ => none
theorem aggCells_spec {v : Value} {l : List Value} (h : aggCells v = some l) : v = .agg l.toArray := by
  unfold aggCells at h
  split at h
  · cases h; simp
  · cases h
mutual
def isK : V → Value → Bool
  | .sc a, b => scEq a b
  | .sl _ l, b => l.isEmpty && isNil b
  | .st cs, b => match aggCells b with | some us => isKL cs us | none => false
  | _, _ => false
def isKL : List V → List Value → Bool
  | [], [] => true
  | x :: l, u :: us => isK x u && u.oneCell' && isKL l us
  | _, _ => false
end
theorem isKL_get : ∀ {l : List V} {us : List Value}, isKL l us = true → us.length = l.length ∧ (∀ u ∈ us, u.oneCell' = true) ∧ ∀ (i : Nat) x u, l[i]? = some x → us[i]? = some u → isK x u = true
  | [], [], _ => ⟨rfl, by simp, by simp⟩
  | x :: l, u :: us, h => by
    rw [isKL, Bool.and_eq_true, Bool.and_eq_true] at h
    obtain ⟨h1, h2, h3⟩ := isKL_get h.2
    refine ⟨by simp [h1], ?_, ?_⟩
    · intro v hv
      rcases List.mem_cons.1 hv with rfl | hv
      · exact h.1.2
      · exact h2 v hv
    · intro i y v hy hv
      cases i with
      | zero =>
        obtain rfl : x = y := by simpa using hy
        obtain rfl : u = v := by simpa using hv
        exact h.1.1
      | succ i => exact h3 i y v (by simpa using hy) (by simpa using hv)
  | [], _ :: _, h => by simp [isKL] at h
  | _ :: _, [], h => by simp [isKL] at h
theorem isK_rep {w : World} {ok : Nat → Prop} : ∀ (x : V) (u : Value), isK x u = true → RepV w ok x u
  | .sc a, u, h => by
    rw [isK] at h
    rw [scEq_spec h]
    exact .sc u
  | .sl sz l, u, h => by
    rw [isK, Bool.and_eq_true] at h
    obtain rfl : l = [] := by simpa using h.1
    rw [isNil_spec h.2]
    exact .sn sz
  | .st cs, u, h => by
    rw [isK] at h
    split at h
    · rename_i us hu
      obtain ⟨h1, h2, h3⟩ := isKL_get h
      rw [aggCells_spec hu]
      exact .st cs us.toArray (by simpa using h1) (by simpa using h2) fun i x v hx hv => isK_rep x v (h3 i x v hx (by simpa using hv))
    · cases h
  | .tu _, _, h => by simp [isK] at h
  | .pt _, _, h => by simp [isK] at h
  | .cl _ _ _, _, h => by simp [isK] at h
  | .ni, _, h => by simp [isK] at h
termination_by x => SizeOf.sizeOf x
decreasing_by
  have := List.sizeOf_lt_of_mem (List.mem_of_getElem? hx)
  simp only [V.st.sizeOf_spec]
  omega
def chkO : O → Operand → Bool
  | .t n, .tmp m => n == m
  | .k x, .const v => isK x v
  | .f f, .func g => f == g
  | _, _ => false
section
variable {w : World} {ok : Nat → Prop} {φ : Nat → Option Pl} {ln : Nat → Option Nat} {env : Env} {a : Act}
theorem rep_O {o : O} {x : Operand} (h : chkO o x = true) (R : ∀ t, RepE w ok φ ln (env t) (a.tmps.getD t undef)) : RepE w ok φ ln (evO env o) (a.eval x) := by
  unfold chkO at h
  split at h
  · obtain rfl := (beq_iff_eq.1 h)
    exact R _
  · exact .v _ _ (isK_rep _ _ h)
  · obtain rfl := (beq_iff_eq.1 h)
    exact .v _ _ (.sc _)
  · cases h
theorem repV_sc {v : Value} {u : Value} (h : RepE w ok φ ln (.v (.sc v)) u) : u = v := by
  cases h with | v _ _ h => cases h; rfl
def binK (op : BinOp) (a b : Value) (K : Value → Prop) : Prop :=
  match a, b with
  | .int k x, .int k' y =>
    match op with
    | .shl => 0 ≤ y ∧ K (.int k (k.wrap (x * 2 ^ min y.toNat k.bits)))
    | .shr => 0 ≤ y ∧ K (.int k (x.fdiv (2 ^ min y.toNat k.bits)))
    | .add => k = k' ∧ K (.int k (k.wrap (x + y)))
    | .sub => k = k' ∧ K (.int k (k.wrap (x - y)))
    | .mul => k = k' ∧ K (.int k (k.wrap (x * y)))
    | .quo => k = k' ∧ y ≠ 0 ∧ K (.int k (k.wrap (x.tdiv y)))
    | .rem => k = k' ∧ y ≠ 0 ∧ K (.int k (x.tmod y))
    | .and => k = k' ∧ K (.int k (bits .and k x y))
    | .or => k = k' ∧ K (.int k (bits .or k x y))
    | .xor => k = k' ∧ K (.int k (bits .xor k x y))
    | .andNot => k = k' ∧ K (.int k (bits .andNot k x y))
    | .eql => k = k' ∧ K (.bool (decide (x = y)))
    | .neq => k = k' ∧ K (.bool (!decide (x = y)))
    | .lss => k = k' ∧ K (.bool (decide (x < y)))
    | .leq => k = k' ∧ K (.bool (decide (x ≤ y)))
    | .gtr => k = k' ∧ K (.bool (decide (y < x)))
    | .geq => k = k' ∧ K (.bool (decide (y ≤ x)))
  | .string s, .string t =>
    match op with
    | .add => s.size + t.size ≤ 140737488355328 ∧ K (.string (s ++ t))
    | .eql => K (.bool (s.toList == t.toList))
    | .neq => K (.bool (!(s.toList == t.toList)))
    | .lss => K (.bool (Op.bytesLess s.toList t.toList))
    | _ => False
  | _, _ => False
theorem int_beq (x y : Int) : (x == y) = decide (x = y) := by by_cases h : x = y <;> simp [h]
theorem run_binK {P : Program} {op : BinOp} {t : TypeId} {x y : Operand} {a b : Value} {K : Value → Prop} (h : binK op a b K) :
    ∃ r, (∀ w, (do eqGuard op t x y a b; binOp op t a b : Sem Value).run P w = .ok r w) ∧ K r := by
  unfold binK at h
  split at h
  · rename_i k x k' y
    cases op <;> simp only at h
    case shl => exact ⟨_, fun w => by simp [eqGuard, binOp, Op.shift, show ¬ y < 0 by omega], h.2⟩
    case shr => exact ⟨_, fun w => by simp [eqGuard, binOp, Op.shift, show ¬ y < 0 by omega], h.2⟩
    all_goals obtain ⟨rfl, h⟩ := h
    case quo => exact ⟨_, fun w => by simp [eqGuard, binOp, Op.intDiv, h.1], h.2⟩
    case rem => exact ⟨_, fun w => by simp [eqGuard, binOp, Op.intDiv, h.1], h.2⟩
    case eql => exact ⟨_, fun w => by simp [eqGuard, binOp, Op.intCmp, Sem.run_bind, int_beq], h⟩
    case neq => exact ⟨_, fun w => by simp [eqGuard, binOp, Op.intCmp, Sem.run_bind, bne, int_beq], h⟩
    all_goals exact ⟨_, fun w => by simp [eqGuard, binOp, Op.intCmp, Op.intArith, Op.intBits, bits, Sem.run_bind], h⟩
  · rename_i s t
    cases op <;> simp only at h
    case add => exact ⟨_, fun w => by
        have h1 : ¬ (((s.size + t.size : Nat) : Int) > IntKind.i64.max) := by
          have : IntKind.i64.max = 9223372036854775807 := by decide
          omega
        simp only [eqGuard, binOp, Op.stringOp, h1, if_false, Sem.run_bind]; simp, h.2⟩
    case eql => exact ⟨_, fun w => by simp [eqGuard, binOp, Op.stringOp, Sem.run_bind], h⟩
    case neq => exact ⟨_, fun w => by simp [eqGuard, binOp, Op.stringOp, Sem.run_bind], h⟩
    case lss => exact ⟨_, fun w => by simp [eqGuard, binOp, Op.stringOp, Sem.run_bind], h⟩
    all_goals exact h.elim
  · exact h.elim
def evBin (op : BinOp) (x y : E) (K : E → Prop) : Prop :=
  match x, y with
  | .v (.sc a), .v (.sc b) => binK op a b fun r => K (.v (.sc r))
  | _, _ => False
theorem snd_bin {P : Program} {op : BinOp} {t : TypeId} {x y : Operand} {a b : Value} {e e' : E} {K : E → Prop} (ha : RepE w ok φ ln e a) (hb : RepE w ok φ ln e' b) (h : evBin op e e' K) :
    ∃ u r, (∀ w, (do eqGuard op t x y a b; binOp op t a b : Sem Value).run P w = .ok u w) ∧ RepE w ok φ ln r u ∧ K r := by
  unfold evBin at h
  split at h
  · rename_i va vb
    rw [repV_sc ha, repV_sc hb]
    obtain ⟨r, h1, h2⟩ := run_binK (P := P) (t := t) (x := x) (y := y) h
    exact ⟨r, _, h1, .v _ _ (.sc r), h2⟩
  · exact h.elim
def evBeq (neg : Bool) (x y : E) (K : E → Prop) : Prop :=
  match x, y with
  | .v (.sc (.bool a)), .v (.sc (.bool b)) => K (.v (.sc (.bool (if neg then a != b else a == b))))
  | _, _ => False
theorem snd_beq {P : Program} {neg : Bool} {t : TypeId} {x y : Operand} {a b : Value} {e e' : E} {K : E → Prop} (ht : P.underlying t = some .bool) (ha : RepE w ok φ ln e a) (hb : RepE w ok φ ln e' b) (h : evBeq neg e e' K) :
    ∃ u r, (∀ w, (do eqGuard (if neg then .neq else .eql) t x y a b; binOp (if neg then .neq else .eql) t a b : Sem Value).run P w = .ok u w) ∧ RepE w ok φ ln r u ∧ K r := by
  unfold evBeq at h
  split at h
  · rename_i va vb
    rw [repV_sc ha, repV_sc hb]
    refine ⟨.bool (if neg then va != vb else va == vb), _, fun w => ?_, .v _ _ (.sc _), h⟩
    cases neg <;> simp [eqGuard, binOp, run_equal_bool w t va vb ht, Sem.run_bind, bne]
  · exact h.elim
def evUn (op : UnOp) (x : E) (K : E → Prop) : Prop :=
  match op, x with
  | .neg, .v (.sc (.int k n)) => K (.v (.sc (.int k (k.wrap (0 - n)))))
  | .xor, .v (.sc (.int k n)) => K (.v (.sc (.int k (bits .xor k (if k.signed then -1 else k.max) n))))
  | .not, .v (.sc (.bool b)) => K (.v (.sc (.bool (!b))))
  | _, _ => False
theorem snd_un {P : Program} {op : UnOp} {a : Value} {e : E} {K : E → Prop} (ha : RepE w ok φ ln e a) (h : evUn op e K) :
    ∃ u r, (∀ w, (Op.unary op a).run P w = .ok u w) ∧ RepE w ok φ ln r u ∧ K r := by
  unfold evUn at h
  split at h
  · rw [repV_sc ha]; exact ⟨_, _, fun w => by simp [Op.unary, Op.intArith], .v _ _ (.sc _), h⟩
  · rw [repV_sc ha]; exact ⟨_, _, fun w => by simp [Op.unary, Op.intBits, bits], .v _ _ (.sc _), h⟩
  · rw [repV_sc ha]; exact ⟨_, _, fun w => by simp [Op.unary], .v _ _ (.sc _), h⟩
  · exact h.elim
def evCv (k : IntKind) (x : E) (K : E → Prop) : Prop :=
  match x with
  | .v (.sc (.int _ n)) => K (.v (.sc (.int k (k.wrap n))))
  | _ => False
theorem snd_cv {P : Program} {k : IntKind} {src dst : TypeId} {a : Value} {e : E} {K : E → Prop} (hs : (P.underlying src).isSome = true) (hd : P.underlying dst = some (.int k)) (ha : RepE w ok φ ln e a) (h : evCv k e K) :
    ∃ u r, (∀ w, (convert src dst a).run P w = .ok u w) ∧ RepE w ok φ ln r u ∧ K r := by
  unfold evCv at h
  split at h
  · rw [repV_sc ha]
    obtain ⟨d, hd'⟩ := Option.isSome_iff_exists.mp hs
    exact ⟨_, _, fun w => by simp [convert, run_underlying hd', run_underlying hd, Conv.intToInt], .v _ _ (.sc _), h⟩
  · exact h.elim
def evMm (mx : Bool) (x y : E) (K : E → Prop) : Prop :=
  match x, y with
  | .v (.sc (.int k a)), .v (.sc (.int k' b)) => k = k' ∧ K (.v (.sc (.int k (if mx then (if a < b then b else a) else (if b < a then b else a)))))
  | _, _ => False
end
end Go.Proofs.YtmjkhbjfacfmcaaGreatDoor.VX
end
section
namespace Go.Proofs.YtmjkhbjfacfmcaaGreatDoor.VX
open Go Go.RowKit
set_option linter.unusedVariables false
set_option linter.unusedSimpArgs false
def isAggD : TypeDesc → Bool
  | .struct _ => true
  | .array _ _ => true
  | _ => false
theorem run_isAgg {P : Program} {t : TypeId} {d : TypeDesc} (h : P.underlying t = some d) (w : World) : (isAgg t).run P w = .ok (isAggD d) w := by
  unfold isAgg
  rw [Sem.run_bind, run_underlying h w]
  cases d <;> rfl
def Blk.sz : Blk → Nat
  | .p _ sz _ => sz
  | .m _ cs => cs.length
def unV : List E → Option (List V)
  | [] => some []
  | .v x :: l => (unV l).map (x :: ·)
  | _ :: _ => none
def mkAg (cs : List E) : E := match unV cs with | some vs => .v (.st vs) | none => .ag cs
theorem unV_spec : ∀ {cs : List E} {vs : List V}, unV cs = some vs → cs = vs.map .v
  | [], vs, h => by simp [unV] at h; subst h; rfl
  | .v x :: l, vs, h => by
    simp only [unV, Option.map_eq_some_iff] at h
    obtain ⟨ws, h1, rfl⟩ := h
    rw [unV_spec h1]; rfl
  | .os .. :: _, _, h => by simp [unV] at h
  | .op .. :: _, _, h => by simp [unV] at h
  | .ag .. :: _, _, h => by simp [unV] at h
  | .tu .. :: _, _, h => by simp [unV] at h
  | .cl .. :: _, _, h => by simp [unV] at h
  | .dead :: _, _, h => by simp [unV] at h
theorem unV_map (vs : List V) : unV (vs.map .v) = some vs := by
  induction vs with
  | nil => rfl
  | cons x l ih => simp [unV, ih]
theorem add_add (a : Addr) (x y : Nat) : (a.add x).add y = a.add (x + y) := by
  unfold Addr.add
  by_cases hx : x = 0 <;> by_cases hy : y = 0 <;> simp_all [Nat.add_assoc]
theorem add_block (a : Addr) (k : Nat) : (a.add k).block = a.block := by unfold Addr.add; split <;> rfl
theorem add_at (b o k : Nat) : (⟨b, o, none⟩ : Addr).add k = ⟨b, o + k, none⟩ := by unfold Addr.add; split <;> simp_all
section
variable {w : World} {ok : Nat → Prop} {φ : Nat → Option Pl} {ln : Nat → Option Nat} {env : Env} {a : Act} {P : Program}
theorem rep_mkAg {cs : List E} {u : Value} (h : RepE w ok φ ln (.ag cs) u) : RepE w ok φ ln (mkAg cs) u := by
  unfold mkAg
  cases hv : unV cs with
  | none => exact h
  | some vs =>
    cases h with | ag _ us h0 h1 h =>
    have hcs := unV_spec hv
    subst hcs
    refine .v _ _ (.st vs us (by simpa using h0) h1 fun i x u hx hu => ?_)
    have := h i (.v x) u (by simp [hx]) hu
    cases this with | v _ _ h => exact h
def evFa (off : Nat) (x : E) (h : Heap) (K : E → Prop) : Prop :=
  match x with
  | .op id j f => match h id with
    | some b => f + off < b.sz ∧ K (.op id j (f + off))
    | none => False
  | .v (.pt cs) => K (.v (.pt (cs.drop off)))
  | _ => False
def Placed (φ : Nat → Option Pl) (h : Heap) : Prop := ∀ id b pl, h id = some b → φ id = some pl → pl.sz = b.sz
theorem rep_pt_drop {cs : List V} {p : Addr} (off : Nat) (h : RepV w ok (.pt cs) (.pointer (some p))) : RepV w ok (.pt (cs.drop off)) (.pointer (some (p.add off))) := by
  cases h with | pt _ _ ha u hc h =>
  refine .pt _ _ (by rw [add_block]; exact ha) (fun f => u (off + f)) (fun f x hf => ?_) (fun f x hf => h _ x (by simpa using hf))
  rw [add_add]
  exact hc _ x (by simpa using hf)
theorem snd_fa {off : Nat} {s : TypeId} {fi : Nat} {v : Value} {e : E} {heap : Heap} {K : E → Prop} (hk : ∃ fs fld i, P.underlying s = some (.struct fs) ∧ fs[fi]? = some fld ∧ fld.offset = off ∧ P.info? fld.type = some i ∧ i.size ≠ 0)
    (hp : Placed φ heap) (hln : ∀ id, ln id = (heap id).map Blk.len) (hv : RepE w ok φ ln e v) (h : evFa off e heap K) :
    ∃ u r, (∀ w, (Instr.fieldAt s v fi).run P w = .ok u w) ∧ RepE w ok φ ln r u ∧ K r := by
  obtain ⟨fs, fld, i, h1, h2, rfl, h3, h4⟩ := hk
  have run : ∀ (p : Addr) (w : World), (Instr.fieldAt s (.pointer (some p)) fi).run P w = .ok (.pointer (some (p.add fld.offset))) w := fun p w => by
    simp [Instr.fieldAt, run_underlying h1, h2, Instr.sureAddr, fieldPlace, Go.sizeOf, typeInfo, h3, h4]
  unfold evFa at h
  split at h
  · rename_i id j f
    split at h
    · rename_i b hb
      cases hv with | op _ _ _ pl L hl hpl hj hf =>
      refine ⟨_, _, run _, ?_, h.2⟩
      rw [add_at, Nat.add_assoc, Nat.add_assoc]
      exact .op id j (f + fld.offset) pl L hl hpl hj (by rw [hp id b pl hb hpl]; exact h.1)
    · exact h.elim
  · rename_i cs
    cases hv with | v _ _ hv =>
    cases hv with | pt _ p ha u hc hh =>
    exact ⟨_, _, run _, .v _ _ (rep_pt_drop _ (.pt _ _ ha u hc hh)), h⟩
  · exact h.elim
def evIa (sz : Nat) (x i : E) (h : Heap) (K : E → Prop) : Prop :=
  match i with
  | .v (.sc (.int _ k)) => match x with
    | .os id lo n => match h id with
      | some b => b.sz = sz ∧ 0 ≤ k ∧ k < n ∧ K (.op id (lo + k.toNat) 0)
      | none => False
    | .v (.sl sz' l) => sz' = sz ∧ 0 ≤ k ∧ ∃ r, l[k.toNat]? = some r ∧ K (.v (.pt r))
    | _ => False
  | _ => False
theorem snd_ia {sz : Nat} (hz0 : 0 < sz) {t : TypeId} {v i : Value} {e e' : E} {heap : Heap} {K : E → Prop} (hk : ∃ el it, P.underlying t = some (.slice el) ∧ P.info? el = some it ∧ it.size = sz)
    (hp : Placed φ heap) (hln : ∀ id, ln id = (heap id).map Blk.len) (hv : RepE w ok φ ln e v) (hi : RepE w ok φ ln e' i) (h : evIa sz e e' heap K) :
    ∃ u r, (∀ w, (Instr.indexAt t v i).run P w = .ok u w) ∧ RepE w ok φ ln r u ∧ K r := by
  obtain ⟨el, it, h1, h2, rfl⟩ := hk
  have run : ∀ (p : Addr) (n c : Nat) (kk : IntKind) (k : Int) (w : World), 0 ≤ k → k < n → (Instr.indexAt t (.slice (some p) n c) (.int kk k)).run P w = .ok (.pointer (some (p.add (k.toNat * it.size)))) w := fun p n c kk k w k0 k1 => by
    simp [Instr.indexAt, run_underlying h1, asIntOf, Go.sizeOf, typeInfo, h2, k0, k1]
  unfold evIa at h
  split at h
  · rename_i kk k
    rw [repV_sc hi]
    split at h
    · rename_i id lo n
      split at h
      · rename_i b hb
        obtain ⟨hs, k0, k1, h⟩ := h
        cases hv with
        | osn => exact absurd k1 (by omega)
        | os _ _ _ p c pl L hl hpl g1 g2 g3 ha =>
          have hc : 0 < c := by omega
          have q1 := hp id b pl hb hpl
          refine ⟨_, _, fun w => run _ _ _ _ _ w k0 k1, ?_, h⟩
          rw [ha hc, add_at]
          have := RepE.op (w := w) (ok := ok) (φ := φ) (ln := ln) id (lo + k.toNat) 0 pl L hl hpl (by omega) (by rw [q1, hs]; exact hz0)
          have q3 : pl.sz = it.size := q1.trans hs
          rw [Nat.add_zero, Nat.add_mul, ← Nat.add_assoc, q3] at this
          rw [q3]
          exact this
      · exact h.elim
    · rename_i sz' l
      obtain ⟨rfl, k0, r0, hr0, h⟩ := h
      have k1 : k < l.length := by have := (List.getElem?_eq_some_iff.1 hr0).1; omega
      have hr0' : r0 = l[k.toNat]'(by omega) := by rw [List.getElem?_eq_getElem (by omega)] at hr0; exact (Option.some.inj hr0).symm
      subst hr0'
      cases hv with | v _ _ hv =>
      cases hv with
      | sn => simp at k1; omega
      | sl _ _ p n c g0 g1 g2 g3 ha u hc hh =>
        subst g0
        have hl : k.toNat < l.length := by omega
        refine ⟨_, _, fun w => run _ _ _ _ _ w k0 k1, .v _ _ (.pt l[k.toNat] _ (by rw [add_block]; exact ha (by omega)) (u k.toNat) (fun f x hf => ?_) fun f x hf => hh _ f _ x (List.getElem?_eq_getElem hl) hf), h⟩
        rw [add_add]
        exact hc _ f _ x (List.getElem?_eq_getElem hl) hf
    · exact h.elim
  · exact h.elim
def evIaa (len sz : Nat) (x i : E) (h : Heap) (K : E → Prop) : Prop :=
  match i with
  | .v (.sc (.int _ k)) => 0 ≤ k ∧ k < len ∧ evFa (k.toNat * sz) x h K
  | _ => False
theorem snd_iaa {len sz : Nat} {t : TypeId} {v i : Value} {e e' : E} {heap : Heap} {K : E → Prop} (hk : ∃ el it, P.underlying t = some (.array len el) ∧ P.info? el = some it ∧ it.size = sz)
    (hp : Placed φ heap) (hln : ∀ id, ln id = (heap id).map Blk.len) (hv : RepE w ok φ ln e v) (hi : RepE w ok φ ln e' i) (h : evIaa len sz e e' heap K) :
    ∃ u r, (∀ w, (Instr.indexAt t v i).run P w = .ok u w) ∧ RepE w ok φ ln r u ∧ K r := by
  obtain ⟨el, it, h1, h2, rfl⟩ := hk
  unfold evIaa at h
  split at h
  · rename_i kk k
    rw [repV_sc hi]
    obtain ⟨k0, k1, h⟩ := h
    have run : ∀ (p : Addr) (w : World), (Instr.indexAt t (.pointer (some p)) (.int kk k)).run P w = .ok (.pointer (some (p.add (k.toNat * it.size)))) w := fun p w => by
      simp [Instr.indexAt, run_underlying h1, Instr.sureAddr, asIntOf, Go.sizeOf, typeInfo, h2, k0, k1]
    unfold evFa at h
    split at h
    · rename_i id j f
      split at h
      · rename_i b hb
        cases hv with | op _ _ _ pl L hl hpl hj hf =>
        refine ⟨_, _, run _, ?_, h.2⟩
        rw [add_at, Nat.add_assoc, Nat.add_assoc]
        exact .op id j _ pl L hl hpl hj (by rw [hp id b pl hb hpl]; exact h.1)
      · exact h.elim
    · rename_i cs
      cases hv with | v _ _ hv =>
      cases hv with | pt _ p ha u hc hh =>
      exact ⟨_, _, run _, .v _ _ (rep_pt_drop _ (.pt _ _ ha u hc hh)), h⟩
    · exact h.elim
  · exact h.elim
def evFd (off n : Nat) (ag : Bool) (x : E) (K : E → Prop) : Prop :=
  match x with
  | .v (.st cs) => if ag then K (.v (.st ((cs.drop off).take n))) else (match cs[off]? with | some c => K (.v c) | none => False)
  | .ag cs => if ag then K (mkAg ((cs.drop off).take n)) else (match cs[off]? with | some c => K c | none => False)
  | _ => False
theorem extract_get (us : Array Value) (o n i : Nat) : (us.extract o (o + n))[i]? = if i < n then us[o + i]? else none := by
  rw [Array.getElem?_extract]
  by_cases h : i < n <;> by_cases h2 : o + i < us.size <;> simp [h, h2] <;> omega
theorem snd_part {off n : Nat} {ag : Bool} {ty : TypeId} {us : Array Value} {e : E} {K : E → Prop} (hk : ∃ d i, P.underlying ty = some d ∧ isAggD d = ag ∧ P.info? ty = some i ∧ i.size = n)
    (hv : RepE w ok φ ln e (.agg us)) (h : evFd off n ag e K) :
    ∃ u r, (∀ w, (part ty us off).run P w = .ok u w) ∧ RepE w ok φ ln r u ∧ K r := by
  obtain ⟨d, i, h1, h2, h3, rfl⟩ := hk
  have hagg : ∀ w, (isAgg ty).run P w = .ok ag w := fun w => h2 ▸ run_isAgg h1 w
  have run1 : ∀ w, ag = true → (part ty us off).run P w = .ok (.agg (us.extract off (off + i.size))) w := fun w e => by
    subst e
    simp [part, Sem.run_bind, hagg w, Go.sizeOf, typeInfo, h3]
  have run2 : ∀ w c, ag = false → us[off]? = some c → (part ty us off).run P w = .ok c w := fun w c e hc => by
    subst e
    simp [part, Sem.run_bind, hagg w, hc]
  have mem : ∀ (j : Nat) u, us[j]? = some u → (∀ u ∈ us.toList, u.oneCell' = true) → u.oneCell' = true := fun j u hu h1 => h1 u (by simpa using Array.mem_of_getElem? hu)
  unfold evFd at h
  split at h
  · rename_i cs
    cases hv with | v _ _ hv =>
    cases hv with | st _ _ g0 g1 hh =>
    split at h
    · rename_i hag
      refine ⟨_, _, fun w => run1 w hag, .v _ _ (.st _ _ (by simp; omega) (fun u hu => ?_) fun j x u hx hu => ?_), h⟩
      · obtain ⟨j, hj⟩ := List.mem_iff_getElem?.1 hu
        rw [Array.getElem?_toList, extract_get] at hj
        split at hj
        · exact mem _ _ hj g1
        · cases hj
      · rw [extract_get] at hu
        rw [List.getElem?_take] at hx
        split at hu
        · rename_i hj
          rw [if_pos hj, List.getElem?_drop] at hx
          exact hh _ _ _ hx hu
        · cases hu
    · rename_i hag
      split at h
      · rename_i c hc
        have hlt : off < us.size := by rw [g0]; exact (List.getElem?_eq_some_iff.1 hc).1
        exact ⟨_, _, fun w => run2 w _ (by simpa using hag) (Array.getElem?_eq_getElem hlt), .v _ _ (hh off _ _ hc (Array.getElem?_eq_getElem hlt)), h⟩
      · exact h.elim
  · rename_i cs
    cases hv with | ag _ _ g0 g1 hh =>
    split at h
    · rename_i hag
      refine ⟨_, _, fun w => run1 w hag, rep_mkAg (.ag _ _ (by simp; omega) (fun u hu => ?_) fun j x u hx hu => ?_), h⟩
      · obtain ⟨j, hj⟩ := List.mem_iff_getElem?.1 hu
        rw [Array.getElem?_toList, extract_get] at hj
        split at hj
        · exact mem _ _ hj g1
        · cases hj
      · rw [extract_get] at hu
        rw [List.getElem?_take] at hx
        split at hu
        · rename_i hj
          rw [if_pos hj, List.getElem?_drop] at hx
          exact hh _ _ _ hx hu
        · cases hu
    · rename_i hag
      split at h
      · rename_i c hc
        have hlt : off < us.size := by rw [g0]; exact (List.getElem?_eq_some_iff.1 hc).1
        exact ⟨_, _, fun w => run2 w _ (by simpa using hag) (Array.getElem?_eq_getElem hlt), hh off _ _ hc (Array.getElem?_eq_getElem hlt), h⟩
      · exact h.elim
  · exact h.elim
theorem snd_fd {off n fi : Nat} {ag : Bool} {t : TypeId} {v : Value} {e : E} {K : E → Prop}
    (hk : ∃ fs fld d i, P.underlying t = some (.struct fs) ∧ fs[fi]? = some fld ∧ fld.offset = off ∧ P.underlying fld.type = some d ∧ isAggD d = ag ∧ P.info? fld.type = some i ∧ i.size = n)
    (hv : RepE w ok φ ln e v) (h : evFd off n ag e K) : ∃ u r, (∀ w, (Instr.field t v fi).run P w = .ok u w) ∧ RepE w ok φ ln r u ∧ K r := by
  obtain ⟨fs, fld, d, i, h1, h2, rfl, h3, h4, h5, h6⟩ := hk
  have hs : ∃ us, v = .agg us := by
    unfold evFd at h
    split at h
    · cases hv with | v _ _ hv => cases hv; exact ⟨_, rfl⟩
    · cases hv; exact ⟨_, rfl⟩
    · exact h.elim
  obtain ⟨us, rfl⟩ := hs
  obtain ⟨u, r, g1, g2, g3⟩ := snd_part ⟨d, i, h3, h4, h5, h6⟩ hv h
  exact ⟨u, r, fun w => by simp [Instr.field, run_underlying h1, h2, asAgg, g1], g2, g3⟩
def evIxa (len n : Nat) (ag : Bool) (x i : E) (K : E → Prop) : Prop :=
  match i with
  | .v (.sc (.int _ k)) => 0 ≤ k ∧ k < len ∧ evFd (k.toNat * n) n ag x K
  | _ => False
theorem snd_ixa {len n : Nat} {ag : Bool} {t : TypeId} {v iv : Value} {e e' : E} {K : E → Prop}
    (hk : ∃ el d i, P.underlying t = some (.array len el) ∧ P.underlying el = some d ∧ isAggD d = ag ∧ P.info? el = some i ∧ i.size = n)
    (hv : RepE w ok φ ln e v) (hi : RepE w ok φ ln e' iv) (h : evIxa len n ag e e' K) : ∃ u r, (∀ w, (Instr.index t v iv).run P w = .ok u w) ∧ RepE w ok φ ln r u ∧ K r := by
  obtain ⟨el, d, i, h1, h3, h4, h5, h6⟩ := hk
  unfold evIxa at h
  split at h
  · rename_i kk k
    rw [repV_sc hi]
    obtain ⟨k0, k1, h⟩ := h
    have hs : ∃ us, v = .agg us := by
      unfold evFd at h
      split at h
      · cases hv with | v _ _ hv => cases hv; exact ⟨_, rfl⟩
      · cases hv; exact ⟨_, rfl⟩
      · exact h.elim
    obtain ⟨us, rfl⟩ := hs
    obtain ⟨u, r, g1, g2, g3⟩ := snd_part ⟨d, i, h3, h4, h5, h6⟩ hv h
    refine ⟨u, r, fun w => ?_, g2, g3⟩
    have g1' := g1 w
    rw [← h6] at g1'
    simp [Instr.index, run_underlying h1, asIntOf, k0, k1, Go.sizeOf, typeInfo, h5, g1']
  · exact h.elim
def sbyte (s : ByteArray) (k : Int) : Int := ((s.data.getD k.toNat 0).toNat : Int)
def evIx (x i : E) (K : E → Prop) : Prop :=
  match x, i with
  | .v (.sc (.string s)), .v (.sc (.int _ k)) => 0 ≤ k ∧ k < s.size ∧ K (.v (.sc (.int .u8 (sbyte s k))))
  | _, _ => False
theorem snd_ix {t : TypeId} {v iv : Value} {e e' : E} {K : E → Prop} (ht : P.underlying t = some .string)
    (hv : RepE w ok φ ln e v) (hi : RepE w ok φ ln e' iv) (h : evIx e e' K) : ∃ u r, (∀ w, (Instr.index t v iv).run P w = .ok u w) ∧ RepE w ok φ ln r u ∧ K r := by
  unfold evIx at h
  split at h
  · rename_i s kk k
    rw [repV_sc hv, repV_sc hi]
    obtain ⟨k0, k1, h⟩ := h
    have hlt : k.toNat < s.size := by omega
    refine ⟨_, _, fun w => ?_, .v _ _ (.sc _), h⟩
    have hb : s[k.toNat]? = some (s.data.getD k.toNat 0) := by
      have h1 : s.data[k.toNat]? = some (s.data[k.toNat]'(by exact hlt)) := Array.getElem?_eq_getElem _
      have h2 : s[k.toNat]? = some (s[k.toNat]'hlt) := getElem?_pos s k.toNat hlt
      rw [h2]
      simp only [Array.getD_eq_getD_getElem?, h1]
      rfl
    simp only [Instr.index, Sem.run_bind, asIntOf, Sem.run_pure, Result.andThen_ok, run_underlying ht, k0, if_true, hb, sbyte]
  · exact h.elim
def evExt (x : E) (i : Nat) (K : E → Prop) : Prop :=
  match x with
  | .tu vs => (match vs[i]? with | some e => K e | none => False)
  | .v (.tu vs) => (match vs[i]? with | some e => K (.v e) | none => False)
  | _ => False
theorem snd_ext {i : Nat} {v : Value} {e : E} {K : E → Prop} (hv : RepE w ok φ ln e v) (h : evExt e i K) : ∃ u r, (∀ w, (Instr.extract v i).run P w = .ok u w) ∧ RepE w ok φ ln r u ∧ K r := by
  unfold evExt at h
  split at h
  · cases hv with | tu cs us h0 hh =>
    split at h
    · rename_i x hx
      have hlt : i < us.size := by rw [h0]; exact (List.getElem?_eq_some_iff.1 hx).1
      exact ⟨us[i], x, fun w => by simp [Instr.extract, Array.getElem?_eq_getElem hlt], hh i x _ hx (Array.getElem?_eq_getElem hlt), h⟩
    · exact h.elim
  · cases hv with | v _ _ hv =>
    cases hv with | tu cs us h0 hh =>
    split at h
    · rename_i x hx
      have hlt : i < us.size := by rw [h0]; exact (List.getElem?_eq_some_iff.1 hx).1
      exact ⟨us[i], _, fun w => by simp [Instr.extract, Array.getElem?_eq_getElem hlt], .v _ _ (hh i x _ hx (Array.getElem?_eq_getElem hlt)), h⟩
    · exact h.elim
  · exact h.elim
def evLen (str : Bool) (x : E) (K : E → Prop) : Prop :=
  match x with
  | .os _ _ n => str = false ∧ K (.v (.sc (.int .i64 n)))
  | .v (.sl _ l) => str = false ∧ K (.v (.sc (.int .i64 l.length)))
  | .v (.sc (.string s)) => str = true ∧ K (.v (.sc (.int .i64 s.size)))
  | _ => False
theorem snd_len {str : Bool} {t ty : TypeId} {v : Value} {e : E} {K : E → Prop} (hk : if str then P.underlying t = some .string else ∃ el, P.underlying t = some (.slice el))
    (hv : RepE w ok φ ln e v) (h : evLen str e K) : ∃ u r, (∀ w, (Builtin.len_ #[t] ty #[v]).run P w = .ok u w) ∧ RepE w ok φ ln r u ∧ K r := by
  unfold evLen at h
  split at h
  · obtain ⟨rfl, h⟩ := h
    obtain ⟨el, ht⟩ := hk
    cases hv with
    | osn => exact ⟨_, _, fun w => by simp [Builtin.len_, run_underlying ht, goInt], .v _ _ (.sc _), h⟩
    | os => exact ⟨_, _, fun w => by simp [Builtin.len_, run_underlying ht, goInt], .v _ _ (.sc _), h⟩
  · obtain ⟨rfl, h⟩ := h
    obtain ⟨el, ht⟩ := hk
    cases hv with | v _ _ hv =>
    cases hv with
    | sn => exact ⟨_, _, fun w => by simp [Builtin.len_, run_underlying ht, goInt], .v _ _ (.sc _), h⟩
    | sl _ _ p n c g0 => subst g0; exact ⟨_, _, fun w => by simp [Builtin.len_, run_underlying ht, goInt], .v _ _ (.sc _), h⟩
  · obtain ⟨rfl, h⟩ := h
    rw [repV_sc hv]
    exact ⟨_, _, fun w => by simp [Builtin.len_, run_underlying (show P.underlying t = some .string from hk), goInt], .v _ _ (.sc _), h⟩
  · exact h.elim
theorem snd_mm {mx : Bool} {ts : Array TypeId} {ty : TypeId} {v v' : Value} {e e' : E} {K : E → Prop} (hv : RepE w ok φ ln e v) (hv' : RepE w ok φ ln e' v') (h : evMm mx e e' K) :
    ∃ u r, (∀ w, (if mx then Builtin.max_ ts ty #[v, v'] else Builtin.min_ ts ty #[v, v']).run P w = .ok u w) ∧ RepE w ok φ ln r u ∧ K r := by
  unfold evMm at h
  split at h
  · obtain ⟨rfl, h⟩ := h
    rw [repV_sc hv, repV_sc hv']
    exact ⟨_, _, fun w => by cases mx <;> simp [Builtin.max_, Builtin.min_, Builtin.max2, Builtin.min2] <;> rfl, .v _ _ (.sc _), h⟩
  · exact h.elim
end
end Go.Proofs.YtmjkhbjfacfmcaaGreatDoor.VX
end
section
namespace Go.Proofs.YtmjkhbjfacfmcaaGreatDoor.VX
open Go Go.RowKit
set_option linter.unusedVariables false
set_option linter.unusedSimpArgs false
section
variable {w : World} {ok : Nat → Prop} {φ : Nat → Option Pl} {ln : Nat → Option Nat} {env : Env} {a : Act} {P : Program}
def evLd (n : Nat) (ag : Bool) (x : E) (h : Heap) (K : E → Prop) : Prop :=
  match x with
  | .op id j f => match h id with
    | some (.p _ sz l) => if ag then f + n ≤ sz ∧ ∃ r, l[j]? = some r ∧ K (.v (.st ((r.drop f).take n))) else ∃ r c, l[j]? = some r ∧ r[f]? = some c ∧ K (.v c)
    | some (.m _ cs) => if ag then f + n ≤ cs.length ∧ K (mkAg ((cs.drop f).take n)) else (match cs[f]? with | some c => K c | none => False)
    | none => False
  | .v (.pt cs) => if ag then n ≤ cs.length ∧ K (.v (.st (cs.take n))) else (match cs[0]? with | some c => K (.v c) | none => False)
  | _ => False
theorem run_load_agg {t : TypeId} {d : TypeDesc} {i : TypeInfo} {p : Addr} (us : List Value) (h1 : P.underlying t = some d) (h2 : isAggD d = true) (h3 : P.info? t = some i) (h4 : i.size = us.length)
    (hc : ∀ (j : Nat) v, us[j]? = some v → w.cell? (p.add j) = some v) : (Instr.loadAt t (.pointer (some p))).run P w = .ok (.agg us.toArray) w := by
  have hl := run_loadCells_list (P := P) w p us hc
  have hagg : (isAgg t).run P w = .ok true w := h2 ▸ run_isAgg h1 w
  simp [Instr.loadAt, Instr.sureAddr, loadVar, Sem.run_bind, hagg, Go.sizeOf, typeInfo, h3, h4, hl]
theorem run_load_one {t : TypeId} {d : TypeDesc} {p : Addr} {u : Value} (h1 : P.underlying t = some d) (h2 : isAggD d = false) (hc : w.cell? p = some u) :
    (Instr.loadAt t (.pointer (some p))).run P w = .ok u w := by
  have hagg : (isAgg t).run P w = .ok false w := h2 ▸ run_isAgg h1 w
  simp [Instr.loadAt, Instr.sureAddr, loadVar, Sem.run_bind, hagg, hc]
theorem range_get {n k m : Nat} (h : (List.range n)[k]? = some m) : k < n ∧ k = m := by
  obtain ⟨h1, h2⟩ := List.getElem?_eq_some_iff.1 h
  simp at h1 h2
  exact ⟨h1, h2⟩
theorem range'_get {f n k m : Nat} (h : (List.range' f n)[k]? = some m) : k < n ∧ f + k = m := by
  obtain ⟨h1, h2⟩ := List.getElem?_eq_some_iff.1 h
  simp at h1 h2
  exact ⟨h1, h2⟩
theorem list_rep {β γ : Type} {R : β → γ → Prop} : ∀ (cs : List β), (∀ (i : Nat) x, cs[i]? = some x → ∃ u, R x u) → ∃ us : List γ, us.length = cs.length ∧ ∀ (i : Nat) x u, cs[i]? = some x → us[i]? = some u → R x u
  | [], _ => ⟨[], rfl, fun i x u h => by simp at h⟩
  | x :: l, h => by
    obtain ⟨u, hu⟩ := h 0 x rfl
    obtain ⟨us, h1, h2⟩ := list_rep l fun i y hy => h (i + 1) y (by simpa using hy)
    refine ⟨u :: us, by simp [h1], fun i y v hy hv => ?_⟩
    cases i with
    | zero =>
      obtain rfl : x = y := by simpa using hy
      obtain rfl : u = v := by simpa using hv
      exact hu
    | succ i => exact h2 i y v (by simpa using hy) (by simpa using hv)
theorem snd_ld {n : Nat} {ag : Bool} {t : TypeId} {v : Value} {e : E} {heap : Heap} {K : E → Prop}
    (hk : ∃ d i, P.underlying t = some d ∧ isAggD d = ag ∧ P.info? t = some i ∧ i.size = n)
    (hb : ∀ id b, heap id = some b → RepB w ok φ ln id b) (hln : ∀ id, ln id = (heap id).map Blk.len) (hv : RepE w ok φ ln e v) (h : evLd n ag e heap K) :
    ∃ u r, (Instr.loadAt t v).run P w = .ok u w ∧ RepE w ok φ ln r u ∧ K r := by
  obtain ⟨d, i, h1, h2, h3, rfl⟩ := hk
  unfold evLd at h
  split at h
  · rename_i id j f
    cases hv with | op _ _ _ pl L hl hpl hj hf =>
    split at h
    · rename_i e0 sz l hid
      rw [hln, hid] at hl
      obtain rfl : l.length = L := by simpa [Blk.len] using hl
      obtain ⟨g0, g | ⟨pl', cur, g1, g2, g3, g4, g5, g6, g7, g8⟩⟩ := hb id _ hid
      · rw [g.1] at hpl; cases hpl
      obtain rfl : pl = pl' := by rw [hpl] at g1; exact Option.some.inj g1
      have hrow : l[j]? = some l[j] := List.getElem?_eq_getElem hj
      have hrl : l[j].length = sz := g5 _ (List.getElem_mem hj)
      split at h
      · rename_i hag
        subst hag
        obtain ⟨h0, r0, hr0, h⟩ := h
        rw [hrow] at hr0
        cases hr0
        obtain ⟨us, hu0, hu1⟩ := list_rep (R := fun (x : Nat × V) u => cur[pl.off + (j * sz + x.1)]? = some u ∧ u.oneCell' = true ∧ RepV w ok x.2 u) ((List.range' f i.size).zip ((l[j].drop f).take i.size)) (fun k x hx => by
          rw [List.getElem?_zip_eq_some] at hx
          obtain ⟨hx1, hx2⟩ := hx
          obtain ⟨hlt, e1⟩ := range'_get hx1
          rw [List.getElem?_take, if_pos hlt, List.getElem?_drop] at hx2
          rw [← e1]
          exact g8 j _ _ _ hrow hx2)
        have hlen : us.length = i.size := by rw [hu0]; simp; omega
        have key : ∀ (k : Nat) u, us[k]? = some u → ∃ x, ((l[j].drop f).take i.size)[k]? = some x ∧ cur[pl.off + (j * sz + (f + k))]? = some u ∧ u.oneCell' = true ∧ RepV w ok x u := fun k u hku => by
          have hk : k < i.size := by have := (List.getElem?_eq_some_iff.1 hku).1; omega
          have hx : ((l[j].drop f).take i.size)[k]? = some (l[j][f + k]'(by omega)) := by
            rw [List.getElem?_take, if_pos hk, List.getElem?_drop, List.getElem?_eq_getElem]
          have hz : ((List.range' f i.size).zip ((l[j].drop f).take i.size))[k]? = some (f + k, l[j][f + k]'(by omega)) := by
            rw [List.getElem?_zip_eq_some]
            refine ⟨?_, hx⟩
            rw [List.getElem?_range' (by omega)]
            simp
          exact ⟨_, hx, hu1 k _ u hz hku⟩
        refine ⟨_, _, run_load_agg us h1 h2 h3 hlen.symm (fun k u hku => ?_), .v _ _ (.st _ us.toArray (by simp [hlen]; omega) (fun u hu => ?_) fun k x u hx hku => ?_), h⟩
        · obtain ⟨x, hx, hc, _⟩ := key k u hku
          rw [add_at, cell_of_row w pl.b _ cur e0 (0, 0) g6]
          rw [g2, Nat.add_assoc, Nat.add_assoc]
          exact hc
        · obtain ⟨k, hk⟩ := List.mem_iff_getElem?.1 hu
          obtain ⟨x, hx, _, ho, _⟩ := key k u (by simpa using hk)
          exact ho
        · obtain ⟨y, hy, _, _, hr⟩ := key k u (by simpa using hku)
          rw [hx] at hy
          obtain rfl := Option.some.inj hy
          exact hr
      · rename_i hag
        have hag' : ag = false := by simpa using hag
        subst hag'
        have hfl : f < l[j].length := by omega
        obtain ⟨r0, c0, hr0, hc0, h⟩ := h
        rw [hrow] at hr0
        cases hr0
        rw [List.getElem?_eq_getElem hfl] at hc0
        cases hc0
        obtain ⟨u, hu, _, hr⟩ := g8 j f _ _ hrow (List.getElem?_eq_getElem hfl)
        refine ⟨u, _, run_load_one h1 h2 ?_, .v _ _ hr, h⟩
        rw [cell_of_row w pl.b _ cur e0 (0, 0) g6, g2]
        exact hu
    · rename_i e0 cs hid
      rw [hln, hid] at hl
      obtain rfl : 1 = L := by simpa [Blk.len] using hl
      obtain rfl : j = 0 := by omega
      obtain ⟨pl', cur, g1, g2, g3, g4, g5, g6, g7⟩ := hb id _ hid
      obtain rfl : pl = pl' := by rw [hpl] at g1; exact Option.some.inj g1
      split at h
      · rename_i hag
        subst hag
        obtain ⟨h0, h⟩ := h
        have hcur : (cur.toList.drop f).take i.size = (cur.extract f (f + i.size)).toList := by simp [List.take_drop]
        refine ⟨_, _, run_load_agg ((cur.toList.drop f).take i.size) h1 h2 h3 (by simp; omega) (fun k u hku => ?_), rep_mkAg (.ag _ _ (by simp; omega) (fun u hu => ?_) fun k x u hx hku => ?_), h⟩
        · rw [add_at, cell_of_row w pl.b _ cur e0 (0, 0) g5]
          rw [List.getElem?_take] at hku
          split at hku
          · rw [List.getElem?_drop, Array.getElem?_toList] at hku
            rw [g2, Nat.zero_add, Nat.zero_mul, Nat.zero_add]
            exact hku
          · cases hku
        · obtain ⟨k, hk⟩ := List.mem_iff_getElem?.1 hu
          simp only [List.getElem?_take] at hk
          split at hk
          · rw [List.getElem?_drop, Array.getElem?_toList] at hk
            have hlt : f + k < cs.length := by have := (Array.getElem?_eq_some_iff.1 hk).1; omega
            obtain ⟨u', hu', ho, _⟩ := g7 _ _ (List.getElem?_eq_getElem hlt)
            rw [hk] at hu'
            obtain rfl := Option.some.inj hu'
            exact ho
          · cases hk
        · rw [List.getElem?_take] at hx
          simp only [List.getElem?_toArray, List.getElem?_take] at hku
          split at hku
          · rename_i hk
            rw [if_pos hk, List.getElem?_drop] at hx
            rw [List.getElem?_drop, Array.getElem?_toList] at hku
            obtain ⟨u', hu', _, hr⟩ := g7 _ _ hx
            rw [hku] at hu'
            obtain rfl := Option.some.inj hu'
            exact hr
          · cases hku
      · rename_i hag
        have hag' : ag = false := by simpa using hag
        subst hag'
        split at h
        · rename_i c hc
          obtain ⟨u, hu, _, hr⟩ := g7 _ _ hc
          refine ⟨u, _, run_load_one h1 h2 ?_, hr, h⟩
          rw [cell_of_row w pl.b _ cur e0 (0, 0) g5, g2, Nat.zero_mul, Nat.zero_add, Nat.zero_add]
          exact hu
        · exact h.elim
    · exact h.elim
  · rename_i cs
    cases hv with | v _ _ hv =>
    cases hv with | pt _ p ha u hc hh =>
    split at h
    · rename_i hag
      subst hag
      obtain ⟨h0, h⟩ := h
      refine ⟨_, _, run_load_agg ((List.range i.size).map u) h1 h2 h3 (by simp) (fun k x hk => ?_), .v _ _ (.st _ _ (by simp; omega) (fun x hx => ?_) fun k x y hx hy => ?_), h⟩
      · rw [List.getElem?_map, Option.map_eq_some_iff] at hk
        obtain ⟨m, hm, rfl⟩ := hk
        obtain ⟨hm1, rfl⟩ := range_get hm
        exact (hc k _ (List.getElem?_eq_getElem (show k < cs.length by omega))).1
      · simp only [List.mem_map, List.mem_range] at hx
        obtain ⟨m, hm, rfl⟩ := hx
        exact (hc m _ (List.getElem?_eq_getElem (show m < cs.length by omega))).2
      · rw [List.getElem?_take] at hx
        simp only [List.getElem?_toArray, List.getElem?_map, Option.map_eq_some_iff] at hy
        obtain ⟨m, hm, rfl⟩ := hy
        obtain ⟨hm1, rfl⟩ := range_get hm
        rw [if_pos hm1] at hx
        exact hh k x hx
    · rename_i hag
      have hag' : ag = false := by simpa using hag
      subst hag'
      split at h
      · rename_i c hc0
        refine ⟨u 0, _, run_load_one h1 h2 ?_, .v _ _ (hh 0 c hc0), h⟩
        have := (hc 0 c hc0).1
        rwa [show p.add 0 = p from rfl] at this
      · exact h.elim
  · exact h.elim
end
end Go.Proofs.YtmjkhbjfacfmcaaGreatDoor.VX
end
section
namespace Go.Proofs.YtmjkhbjfacfmcaaGreatDoor.VX
open Go Go.RowKit
set_option linter.unusedVariables false
set_option linter.unusedSimpArgs false
section
variable {w : World} {ok : Nat → Prop} {φ : Nat → Option Pl} {ln : Nat → Option Nat} {env : Env} {a : Act} {P : Program}
def RepEo (w : World) (ok : Nat → Prop) (φ : Nat → Option Pl) (ln : Nat → Option Nat) : Option E → Option Value → Prop
  | none, none => True
  | some e, some v => RepE w ok φ ln e v
  | _, _ => False
def evB (d : Int) (o : Option E) (K : Int → Prop) : Prop :=
  match o with
  | none => K d
  | some (.v (.sc (.int _ k))) => K k
  | _ => False
def evM (n : Int) (hh : Int) : Option E → Prop
  | none => True
  | some (.v (.sc (.int _ m))) => hh ≤ m ∧ m ≤ n
  | _ => False
def evBs (n : Int) (lo hi mx : Option E) (K : Nat → Nat → Prop) : Prop :=
  evB 0 lo fun l => evB n hi fun hh => 0 ≤ l ∧ l ≤ hh ∧ hh ≤ n ∧ (mx.isSome = true → hi.isSome = true) ∧ evM n hh mx ∧ K l.toNat hh.toNat
theorem evB_cases {d : Int} {o : Option E} {vo : Option Value} {K : Int → Prop} (hv : RepEo w ok φ ln o vo) (h : evB d o K) :
    (o = none ∧ vo = none ∧ K d) ∨ ∃ kk k, (o.isSome = true) ∧ vo = some (.int kk k) ∧ K k := by
  unfold evB at h
  split at h
  · cases vo with
    | none => exact .inl ⟨rfl, rfl, h⟩
    | some v => exact hv.elim
  · cases vo with
    | none => exact hv.elim
    | some v => exact .inr ⟨_, _, rfl, by rw [repV_sc hv], h⟩
  · exact h.elim
theorem run_bounds {isSlice : Bool} {n c : Nat} {lo hi mx : Option E} {lo' hi' mx' : Option Value} {K : Nat → Nat → Prop} (hnc : n ≤ c) (hl : RepEo w ok φ ln lo lo') (hh : RepEo w ok φ ln hi hi') (hm : RepEo w ok φ ln mx mx')
    (h : evBs n lo hi mx K) : ∃ l m q, (∀ w, (Instr.sliceBounds isSlice n c lo' hi' mx').run P w = .ok (l, m, q) w) ∧ l ≤ m ∧ m ≤ n ∧ m ≤ q ∧ q ≤ c ∧ K l m := by
  unfold evBs at h
  have hmx : ∀ hv : Int, evM n hv mx → (mx = none ∧ mx' = none) ∨ ∃ kk k, mx.isSome = true ∧ mx' = some (.int kk k) ∧ hv ≤ k ∧ k ≤ n := by
    intro hv hM
    cases mx with
    | none =>
      cases mx' with
      | none => exact .inl ⟨rfl, rfl⟩
      | some v => exact hm.elim
    | some e =>
      cases mx' with
      | none => exact hm.elim
      | some v =>
        unfold evM at hM
        split at hM
        · rename_i heq; cases heq
        · rename_i kk k heq
          injection heq with heq
          subst heq
          exact .inr ⟨kk, k, rfl, by rw [repV_sc hm], hM.1, hM.2⟩
        · exact hM.elim
  rcases evB_cases hl h with ⟨rfl, rfl, h⟩ | ⟨kl, l, _, rfl, h⟩ <;> rcases evB_cases hh h with ⟨rfl, rfl, h⟩ | ⟨kh, hv, hs, rfl, h⟩ <;> obtain ⟨h0, h1, h2, h3, h4, h5⟩ := h <;> rcases hmx _ h4 with ⟨rfl, rfl⟩ | ⟨km, mv, hms, rfl, g1, g2⟩
  · exact ⟨0, n, c, fun w => by simp [Instr.sliceBounds], by omega, by omega, hnc, by omega, by simpa using h5⟩
  · exact absurd (h3 hms) (by simp)
  · refine ⟨0, hv.toNat, c, fun w => ?_, by omega, by omega, by omega, by omega, h5⟩
    simp [Instr.sliceBounds, run_sliceBound (P := P) w kh hv c _ (by omega) (by omega)]
  · refine ⟨0, hv.toNat, mv.toNat, fun w => ?_, by omega, by omega, by omega, by omega, h5⟩
    simp [Instr.sliceBounds, run_sliceBound (P := P) w km mv c _ (by omega) (by omega), run_sliceBound (P := P) w kh hv mv.toNat _ (by omega) (by omega)]
  · refine ⟨l.toNat, n, c, fun w => ?_, by omega, by omega, by omega, by omega, by simpa using h5⟩
    simp [Instr.sliceBounds, run_sliceBound (P := P) w kl l n _ (by omega) (by omega)]
  · exact absurd (h3 hms) (by simp)
  · refine ⟨l.toNat, hv.toNat, c, fun w => ?_, by omega, by omega, by omega, by omega, h5⟩
    simp [Instr.sliceBounds, run_sliceBound (P := P) w kh hv c _ (by omega) (by omega), run_sliceBound (P := P) w kl l hv.toNat _ (by omega) (by omega)]
  · refine ⟨l.toNat, hv.toNat, mv.toNat, fun w => ?_, by omega, by omega, by omega, by omega, h5⟩
    simp [Instr.sliceBounds, run_sliceBound (P := P) w km mv c _ (by omega) (by omega), run_sliceBound (P := P) w kh hv mv.toNat _ (by omega) (by omega), run_sliceBound (P := P) w kl l hv.toNat _ (by omega) (by omega)]
def evSls (x : E) (lo hi : Option E) (K : E → Prop) : Prop :=
  match x with
  | .v (.sc (.string s)) => evBs s.size lo hi none fun l h => K (.v (.sc (.string (s.extract l h))))
  | _ => False
theorem snd_sls {t : TypeId} {v : Value} {e : E} {lo hi : Option E} {lo' hi' : Option Value} {K : E → Prop} (ht : P.underlying t = some .string) (hv : RepE w ok φ ln e v) (hl : RepEo w ok φ ln lo lo') (hh : RepEo w ok φ ln hi hi')
    (h : evSls e lo hi K) : ∃ u r, (∀ w, (Instr.sliceAt t v lo' hi' none).run P w = .ok u w) ∧ RepE w ok φ ln r u ∧ K r := by
  unfold evSls at h
  split at h
  · rename_i s
    rw [repV_sc hv]
    obtain ⟨l, m, q, h1, h2, h3, h4, h5, h6⟩ := run_bounds (P := P) (isSlice := false) (Nat.le_refl s.size) hl hh (mx := none) (mx' := none) trivial h
    refine ⟨_, _, fun w => ?_, .v _ _ (.sc _), h6⟩
    have h1' := h1 w
    simp [Instr.sliceAt, Instr.slice, Sem.run_bind, run_underlying ht, Result.andThen_ok, h1']
  · exact h.elim
def evSlc (sz : Nat) (x : E) (lo hi mx : Option E) (h : Heap) (K : E → Prop) : Prop :=
  match x with
  | .os id l0 n => (match h id with | some b => b.sz = sz | none => False) ∧ evBs n lo hi mx fun l hh => K (.os id (l0 + l) (hh - l))
  | .v (.sl sz' ls) => sz' = sz ∧ evBs ls.length lo hi mx fun l hh => K (.v (.sl sz' ((ls.drop l).take (hh - l))))
  | _ => False
theorem snd_slc {sz : Nat} {t : TypeId} {v : Value} {e : E} {lo hi mx : Option E} {lo' hi' mx' : Option Value} {heap : Heap} {K : E → Prop} (hk : ∃ el it, P.underlying t = some (.slice el) ∧ P.info? el = some it ∧ it.size = sz) (hp : Placed φ heap)
    (hv : RepE w ok φ ln e v) (hl : RepEo w ok φ ln lo lo') (hh : RepEo w ok φ ln hi hi') (hm : RepEo w ok φ ln mx mx')
    (h : evSlc sz e lo hi mx heap K) : ∃ u r, (∀ w, (Instr.sliceAt t v lo' hi' mx').run P w = .ok u w) ∧ RepE w ok φ ln r u ∧ K r := by
  obtain ⟨el, it, ht, hi1, rfl⟩ := hk
  have run : ∀ (A : Option Addr) (n c l m q : Nat), (∀ w, (Instr.sliceBounds true n c lo' hi' mx').run P w = .ok (l, m, q) w) → ∀ w, (Instr.sliceAt t (.slice A n c) lo' hi' mx').run P w = .ok (.slice (if q = l then A else A.map (·.add (l * it.size))) (m - l) (q - l)) w := fun A n c l m q hb w => by
    simp only [Instr.sliceAt, Instr.slice, Sem.run_bind, run_underlying ht, Result.andThen_ok, hb]
    simp [Go.sizeOf, typeInfo, hi1]
  unfold evSlc at h
  split at h
  · rename_i id l0 n
    obtain ⟨hs, h⟩ := h
    cases hv with
    | osn _ L hl' hp' =>
      obtain ⟨l, m, q, h1, h2, h3, h4, h5, h6⟩ := run_bounds (P := P) (isSlice := true) (Nat.le_refl 0) hl hh hm h
      obtain rfl : m = 0 := by omega
      obtain rfl : l = 0 := by omega
      obtain rfl : q = 0 := by omega
      exact ⟨_, _, run _ _ _ _ _ _ h1, by simpa using RepE.osn id L hl' hp', h6⟩
    | os _ _ _ p c pl L hl' hp' g1 g2 g3 ha =>
      obtain ⟨l, m, q, h1, h2, h3, h4, h5, h6⟩ := run_bounds (P := P) (isSlice := true) g2 hl hh hm h
      split at hs
      · rename_i b hb
        have hsz : pl.sz = it.size := (hp id b pl hb hp').trans hs
        refine ⟨_, _, run _ _ _ _ _ _ h1, ?_, h6⟩
        by_cases hq : q = l
        · rw [if_pos hq]
          exact .os id _ _ p (q - l) pl L hl' hp' (by omega) (by omega) (by omega) (fun h0 => absurd h0 (by omega))
        · rw [if_neg hq]
          refine .os id _ _ _ (q - l) pl L hl' hp' (by omega) (by omega) (by omega) (fun h0 => ?_)
          dsimp only
          rw [ha (by omega), add_at, Nat.add_mul, Nat.add_assoc, hsz]
      · exact hs.elim
  · rename_i sz' ls
    obtain ⟨rfl, h⟩ := h
    cases hv with | v _ _ hv =>
    cases hv with
    | sn =>
      obtain ⟨l, m, q, h1, h2, h3, h4, h5, h6⟩ := run_bounds (P := P) (isSlice := true) (Nat.le_refl 0) hl hh hm h
      obtain rfl : m = 0 := by omega
      obtain rfl : l = 0 := by omega
      obtain rfl : q = 0 := by omega
      exact ⟨_, _, run _ _ _ _ _ _ h1, .v _ _ (by simpa using RepV.sn _), h6⟩
    | sl _ _ p n c g0 g1 g2 g3 ha u hc hh' =>
      subst g0
      obtain ⟨l, m, q, h1, h2, h3, h4, h5, h6⟩ := run_bounds (P := P) (isSlice := true) g1 hl hh hm h
      have hlen : ((ls.drop l).take (m - l)).length = m - l := by simp; omega
      have hget : ∀ (j : Nat) r, ((ls.drop l).take (m - l))[j]? = some r → ls[l + j]? = some r := fun j r hj => by
        rw [List.getElem?_take] at hj
        split at hj
        · rwa [List.getElem?_drop] at hj
        · cases hj
      refine ⟨_, _, run _ _ _ _ _ _ h1, .v _ _ ?_, h6⟩
      have hmem : ∀ r ∈ (ls.drop l).take (m - l), r.length = it.size := fun r hr => g3 r (List.mem_of_mem_drop (List.mem_of_mem_take hr))
      by_cases hq : q = l
      · rw [if_pos hq]
        have he : (ls.drop l).take (m - l) = [] := List.eq_nil_of_length_eq_zero (by omega)
        rw [he]
        exact .sl _ [] p _ _ (by simp; omega) (by omega) (by omega) (by simp) (fun h0 => absurd h0 (by omega)) (fun _ _ => undef) (by simp) (by simp)
      · rw [if_neg hq]
        refine .sl _ _ _ _ _ hlen (by omega) (by omega) hmem (fun h0 => by rw [add_block]; exact ha (by omega)) (fun j f => u (l + j) f) (fun j f r x hj hf => ?_) fun j f r x hj hf => hh' _ f r x (hget j r hj) hf
        rw [add_add, ← Nat.add_assoc, ← Nat.add_mul]
        exact hc _ f r x (hget j r hj) hf
  · exact h.elim
def cellsE : E → Option (List E)
  | .v (.sc v) => if v.oneCell' then some [.v (.sc v)] else none
  | .v (.st cs) => some (cs.map .v)
  | .v (.sl sz l) => some [.v (.sl sz l)]
  | .v (.pt cs) => some [.v (.pt cs)]
  | .v (.cl fn a b) => some [.v (.cl fn a b)]
  | .v .ni => some [.v .ni]
  | .ag cs => some cs
  | .os i l n => some [.os i l n]
  | .op i j f => some [.op i j f]
  | .cl fn a b => some [.cl fn a b]
  | _ => none
def RepL (w : World) (ok : Nat → Prop) (φ : Nat → Option Pl) (ln : Nat → Option Nat) (cs : List E) (us : List Value) : Prop :=
  us.length = cs.length ∧ (∀ u ∈ us, u.oneCell' = true) ∧ ∀ (i : Nat) x u, cs[i]? = some x → us[i]? = some u → RepE w ok φ ln x u
theorem repL_one {e : E} {u : Value} (h1 : u.oneCell' = true) (h : RepE w ok φ ln e u) : RepL w ok φ ln [e] [u] := by
  refine ⟨rfl, by simpa using h1, fun i x v hx hv => ?_⟩
  cases i with
  | zero =>
    obtain rfl : e = x := by simpa using hx
    obtain rfl : u = v := by simpa using hv
    exact h
  | succ i => simp at hx
theorem cellsE_spec {e : E} {v : Value} {cs : List E} (hv : RepE w ok φ ln e v) (h : cellsE e = some cs) : RepL w ok φ ln cs v.cells.toList := by
  unfold cellsE at h
  split at h
  · split at h
    · rename_i x ho
      cases h
      rw [repV_sc hv]
      have hc : x.cells = #[x] := by cases x <;> simp_all [Value.cells, Value.oneCell']
      rw [hc]
      exact repL_one ho (.v _ _ (.sc _))
    · cases h
  · cases h
    cases hv with | v _ _ hv =>
    cases hv with | st cs us h0 h1 hh =>
    refine ⟨by simp [Value.cells, h0], by simpa [Value.cells] using h1, fun i x u hx hu => ?_⟩
    rw [List.getElem?_map, Option.map_eq_some_iff] at hx
    obtain ⟨y, hy, rfl⟩ := hx
    exact .v _ _ (hh i y u hy (by simpa [Value.cells] using hu))
  · cases h
    have hv0 := hv
    cases hv with | v _ _ hv => cases hv <;> exact repL_one rfl hv0
  · cases h
    have hv0 := hv
    cases hv with | v _ _ hv => cases hv; exact repL_one rfl hv0
  · cases h
    have hv0 := hv
    cases hv with | v _ _ hv => cases hv; exact repL_one rfl hv0
  · cases h
    have hv0 := hv
    cases hv with | v _ _ hv => cases hv; exact repL_one rfl hv0
  · cases h
    cases hv with | ag cs us h0 h1 hh =>
    exact ⟨by simp [Value.cells, h0], by simpa [Value.cells] using h1, fun i x u hx hu => hh i x u hx (by simpa [Value.cells] using hu)⟩
  · cases h
    have hv0 := hv
    cases hv <;> exact repL_one rfl hv0
  · cases h
    have hv0 := hv
    cases hv; exact repL_one rfl hv0
  · cases h
    have hv0 := hv
    cases hv; exact repL_one rfl hv0
  · cases h
def splice {β : Type} (cs p : List β) (off : Nat) : List β := cs.take off ++ p ++ cs.drop (off + p.length)
theorem splice_length {β : Type} {cs p : List β} {off : Nat} (h : off + p.length ≤ cs.length) : (splice cs p off).length = cs.length := by simp [splice]; omega
theorem splice_get {β : Type} {cs p : List β} {off : Nat} (h : off + p.length ≤ cs.length) (i : Nat) : (splice cs p off)[i]? = if off ≤ i ∧ i < off + p.length then p[i - off]? else cs[i]? := by
  unfold splice
  by_cases h1 : i < off
  · rw [List.append_assoc, List.getElem?_append_left (by simp; omega), List.getElem?_take, if_pos h1, if_neg (by omega)]
  · by_cases h2 : i < off + p.length
    · rw [List.getElem?_append_left (by simp; omega), List.getElem?_append_right (by simp; omega), if_pos (by omega)]
      congr 1
      simp
      omega
    · rw [List.getElem?_append_right (by simp; omega), List.getElem?_drop, if_neg (by omega)]
      congr 1
      simp
      omega
theorem RepL.splice {cs p : List E} {us q : List Value} {off : Nat} (h : RepL w ok φ ln cs us) (k : RepL w ok φ ln p q) (hl : off + p.length ≤ cs.length) : RepL w ok φ ln (splice cs p off) (splice us q off) := by
  have e1 := k.1
  have e2 := h.1
  refine ⟨by rw [splice_length (by omega), splice_length hl, e2], fun u hu => ?_, fun i x u hx hu => ?_⟩
  · unfold VX.splice at hu
    rcases List.mem_append.1 hu with hu | hu
    · rcases List.mem_append.1 hu with hu | hu
      · exact h.2.1 u (List.mem_of_mem_take hu)
      · exact k.2.1 u hu
    · exact h.2.1 u (List.mem_of_mem_drop hu)
  · rw [splice_get hl] at hx
    rw [splice_get (by omega), e1] at hu
    split at hx
    · rename_i hc
      rw [if_pos hc] at hu
      exact k.2.2 _ x u hx hu
    · rename_i hc
      rw [if_neg hc] at hu
      exact h.2.2 _ x u hx hu
theorem foldl_splice (off : Nat) : ∀ (q : List Value) (i : Nat) (cells : Array Value), off + i + q.length ≤ cells.size →
    ((q.zipIdx i).foldl (fun cs (p : Value × Nat) => cs.setIfInBounds (off + p.2) p.1) cells).toList = splice cells.toList q (off + i)
  | [], i, cells, _ => by simp [splice]
  | u :: q, i, cells, h => by
    simp only [List.length_cons] at h
    rw [List.zipIdx_cons, List.foldl_cons, foldl_splice off q (i + 1) _ (by simp; omega)]
    apply List.ext_getElem?
    intro k
    rw [splice_get (by simp; omega), splice_get (by simp; omega)]
    simp only [Array.toList_setIfInBounds, List.getElem?_set, List.length_cons, Array.length_toList]
    by_cases h1 : off + (i + 1) ≤ k ∧ k < off + (i + 1) + q.length
    · rw [if_pos h1, if_pos (by omega), show k - (off + i) = (k - (off + (i + 1))) + 1 by omega, List.getElem?_cons_succ]
    · rw [if_neg h1]
      by_cases h2 : k = off + i
      · subst h2
        rw [if_pos rfl, if_pos (by omega), if_pos (by omega)]
        simp
      · rw [if_neg (by omega), if_neg (by omega)]
def evParts : List E → List (Nat × Nat × E) → (List E → Prop) → Prop
  | cs, [], K => K cs
  | cs, (off, n, e) :: r, K => match cellsE e with
    | some p => p.length = n ∧ off + n ≤ cs.length ∧ evParts (splice cs p off) r K
    | none => False
theorem fill_rep {place : Nat → Option (Nat × Nat)} : ∀ (ps : List (Nat × Nat × E)) (qs : List (Nat × Value)) (cs : List E) (cells : Array Value) (K : List E → Prop), RepL w ok φ ln cs cells.toList → ps.length = qs.length →
    (∀ (i : Nat) p q, ps[i]? = some p → qs[i]? = some q → place q.1 = some (p.1, p.2.1) ∧ RepE w ok φ ln p.2.2 q.2) → evParts cs ps K →
    ∃ cs' cells', Instr.fill place cells qs = some cells' ∧ RepL w ok φ ln cs' cells'.toList ∧ K cs' ∧ cs'.length = cs.length
  | [], [], cs, cells, K, h0, _, _, h => ⟨cs, cells, rfl, h0, h, rfl⟩
  | (off, n, e) :: ps, (i, v) :: qs, cs, cells, K, h0, hl, hr, h => by
    unfold evParts at h
    split at h
    · rename_i p hp
      obtain ⟨rfl, h1, h⟩ := h
      obtain ⟨g1, g2⟩ := hr 0 _ _ rfl rfl
      have hc := cellsE_spec g2 hp
      have e1 : v.cells.size = p.length := by have := hc.1; simpa using this
      have e2 : cells.size = cs.length := by have := h0.1; simpa using this
      have hfold := foldl_splice off v.cells.toList 0 cells (by simp; omega)
      rw [Nat.add_zero] at hfold
      obtain ⟨cs', cells', k1, k2, k3, k4⟩ := fill_rep (place := place) ps qs (splice cs p off) ((v.cells.toList.zipIdx 0).foldl (fun cs (p : Value × Nat) => cs.setIfInBounds (off + p.2) p.1) cells) K
        (by rw [hfold]; exact h0.splice hc h1) (by simpa using hl) (fun j p q hp hq => hr (j + 1) p q (by simpa using hp) (by simpa using hq)) h
      refine ⟨cs', cells', ?_, k2, k3, by rw [k4, splice_length h1]⟩
      rw [Instr.fill, g1]
      simp only
      rw [if_neg (by simp [e1, e2]; omega)]
      rw [← k1]
      congr 1
      rw [← Array.foldl_toList, Array.toList_zipIdx]
    · exact h.elim
  | [], _ :: _, _, _, _, _, hl, _, _ => by simp at hl
  | _ :: _, [], _, _, _, _, hl, _, _ => by simp at hl
def evBd (z : List V) (parts : List (Nat × Nat × E)) (K : E → Prop) : Prop := evParts (z.map .v) parts fun cs => K (mkAg cs)
theorem snd_bd {z : List V} {t : TypeId} {ps : List (Nat × Nat × E)} {qs : Array (Nat × Value)} {K : E → Prop} {place : Nat → Option (Nat × Nat)}
    (hk : ∃ zv : Value, isKL z zv.cells.toList = true ∧ ∀ qs, P.built t qs = Instr.fill place zv.cells qs) (hl : ps.length = qs.toList.length)
    (hr : ∀ (i : Nat) p q, ps[i]? = some p → qs.toList[i]? = some q → place q.1 = some (p.1, p.2.1) ∧ RepE w ok φ ln p.2.2 q.2) (h : evBd z ps K) :
    ∃ u r, (∀ w, (Instr.build t qs).run P w = .ok u w) ∧ RepE w ok φ ln r u ∧ K r := by
  obtain ⟨zv, h1, h2⟩ := hk
  obtain ⟨g1, g2, g3⟩ := isKL_get h1
  obtain ⟨cs', cells', k1, k2, k3, k4⟩ := fill_rep (w := w) (ok := ok) (φ := φ) (ln := ln) (place := place) ps qs.toList (z.map .v) zv.cells _ (by
    refine ⟨by simp [g1], g2, fun i x u hx hu => ?_⟩
    rw [List.getElem?_map, Option.map_eq_some_iff] at hx
    obtain ⟨y, hy, rfl⟩ := hx
    exact .v _ _ (isK_rep y u (g3 i y u hy hu))) hl hr h
  refine ⟨_, _, fun w => run_build (P := P) w t qs cells' (by rw [h2, k1]), rep_mkAg (.ag cs' cells' (by have := k2.1; simpa using this) k2.2.1 fun i x u hx hu => k2.2.2 i x u hx (by simpa using hu)), k3⟩
end
end Go.Proofs.YtmjkhbjfacfmcaaGreatDoor.VX
end
section
namespace Go.Proofs.YtmjkhbjfacfmcaaGreatDoor.VX
open Go Go.RowKit
set_option linter.unusedVariables false
set_option linter.unusedSimpArgs false
def E.kill (id : Nat) (e : E) : E := if e.ids (fun i => i != id) then e else .dead
def Blk.tr (f : E → E) : Blk → Blk
  | .p e sz l => .p e sz l
  | .m e cs => .m e (cs.map f)
def heapTr (f : E → E) (h : Heap) (k : Nat) : Option Blk := (h k).map (Blk.tr f)
def envTr (f : E → E) (g : Env) (t : Nat) : E := f (g t)
theorem Blk.tr_len (f : E → E) (b : Blk) : (b.tr f).len = b.len := by cases b <;> rfl
theorem Blk.tr_id (b : Blk) : b.tr (fun e => e) = b := by cases b <;> simp [Blk.tr]
theorem heapTr_id (h : Heap) : heapTr (fun e => e) h = h := by
  funext k
  unfold heapTr
  cases h k <;> simp [Blk.tr_id]
theorem lnOf_tr (f : E → E) (h : Heap) : lnOf (heapTr f h) = lnOf h := by
  funext k
  unfold lnOf heapTr
  cases h k <;> simp [Blk.tr_len]
theorem heapTr_isSome (f : E → E) (h : Heap) (k : Nat) : (heapTr f h k).isSome = (h k).isSome := by unfold heapTr; cases h k <;> rfl
theorem lnOf_upd (h : Heap) (i : Nat) (b : Blk) (k : Nat) : lnOf (upd h i (some b)) k = if k = i then some b.len else lnOf h k := by
  unfold lnOf upd
  by_cases hk : k = i <;> simp [hk]
section
variable {w0 w w' : World} {mine ok0 : Nat → Prop} {φ : Nat → Option Pl} {heap : Heap} {id0 : Nat} {pl' : Option Pl} {blk' : Blk} {f : E → E}
structure Chg (φ : Nat → Option Pl) (heap : Heap) (w w' : World) (id0 : Nat) (pl' : Option Pl) : Prop where
  same : ∀ b, b < w.heap.size → (∀ pl, (heap id0).isSome = true → φ id0 = some pl → pl.b ≠ b) → w'.heap[b]? = w.heap[b]?
  size : w.heap.size ≤ w'.heap.size
  os : w'.os = w.os
  tape : w'.tape = w.tape
  output : w'.output = w.output
  pl : ∀ pl, pl' = some pl → pl.b < w'.heap.size ∧ (w.heap.size ≤ pl.b ∨ ∃ q, (heap id0).isSome = true ∧ φ id0 = some q ∧ q.b = pl.b)
theorem Chg.ok (C : Chg φ heap w w' id0 pl') (H : HRep w0 mine ok0 φ heap w) (b : Nat) (h : okOf w0 ok0 φ heap w b) :
    okOf w0 ok0 (upd φ id0 pl') (upd (heapTr f heap) id0 (some blk')) w' b ∧ w'.heap[b]? = w.heap[b]? := by
  obtain ⟨h1, h2, h3⟩ := h
  refine ⟨⟨h1, Nat.lt_of_lt_of_le h2 C.size, fun id pl hid hp => ?_⟩, C.same b h2 fun pl hs hp => h3 id0 pl hs hp⟩
  by_cases hk : id = id0
  · subst hk
    rw [upd_same] at hp
    rcases (C.pl pl hp).2 with h4 | ⟨q, hq1, hq2, hq3⟩
    · omega
    · rw [← hq3]; exact h3 _ q hq1 hq2
  · rw [upd_ne _ _ _ hk] at hp
    rw [upd_ne _ _ _ hk, heapTr_isSome] at hid
    exact h3 id pl hid hp
theorem Chg.rep (C : Chg φ heap w w' id0 pl') (H : HRep w0 mine ok0 φ heap w)
    (htr : ∀ e u, RepE w (okOf w0 ok0 φ heap w) φ (lnOf heap) e u → RepE w' (okOf w0 ok0 (upd φ id0 pl') (upd (heapTr f heap) id0 (some blk')) w') (upd φ id0 pl') (lnOf (upd (heapTr f heap) id0 (some blk'))) (f e) u)
    (new : RepB w' (okOf w0 ok0 (upd φ id0 pl') (upd (heapTr f heap) id0 (some blk')) w') (upd φ id0 pl') (lnOf (upd (heapTr f heap) id0 (some blk'))) id0 blk') :
    HRep w0 mine ok0 (upd φ id0 pl') (upd (heapTr f heap) id0 (some blk')) w' := by
  refine ⟨fun id b hb => ?_, fun id id' pl pl2 h1 h2 h3 h4 h5 => ?_, fun id pl h1 h2 => ?_, fun b hb hm => ?_, C.os.trans H.os, C.tape.trans H.tape, C.output.trans H.output, Nat.le_trans H.size C.size, H.ok0⟩
  · by_cases hk : id = id0
    · subst hk
      rw [upd_same] at hb
      cases hb
      exact new
    · rw [upd_ne _ _ _ hk] at hb
      unfold heapTr at hb
      rw [Option.map_eq_some_iff] at hb
      obtain ⟨b0, hb0, rfl⟩ := hb
      have h0 := H.blk id b0 hb0
      have hq : ∀ pl, φ id = some pl → w'.heap[pl.b]? = w.heap[pl.b]? := fun pl hp => by
        have hs : (heap id).isSome = true := by rw [hb0]; rfl
        refine C.same _ (H.own id pl hs hp).1 fun q hq1 hq2 he => hk (H.inj id id0 pl q hs hq1 hp hq2 he.symm)
      have hp' : upd φ id0 pl' id = φ id := upd_ne _ _ _ hk
      cases b0 with
      | p e sz l =>
        obtain ⟨g0, g1⟩ := h0
        refine ⟨g0, ?_⟩
        rcases g1 with ⟨g1, g2⟩ | ⟨pl, cur, g1, g2, g3, g4, g5, g6, g7, g8⟩
        · exact .inl ⟨hp'.trans g1, g2⟩
        · refine .inr ⟨pl, cur, hp'.trans g1, g2, g3, g4, g5, (hq pl g1).trans g6, g7, fun j f r x hj hf => ?_⟩
          obtain ⟨u, hu, h9, h10⟩ := g8 j f r x hj hf
          exact ⟨u, hu, h9, h10.mono (C.ok H)⟩
      | m e cs =>
        obtain ⟨pl, cur, g1, g2, g3, g4, g5, g6, g7⟩ := h0
        refine ⟨pl, cur, hp'.trans g1, g2, by simpa using g3, g4, (hq pl g1).trans g5, by simpa using g6, fun f x hf => ?_⟩
        rw [List.getElem?_map, Option.map_eq_some_iff] at hf
        obtain ⟨y, hy, rfl⟩ := hf
        obtain ⟨u, hu, h9, h10⟩ := g7 f y hy
        exact ⟨u, hu, h9, htr _ _ h10⟩
  · have old : ∀ i q, i ≠ id0 → (upd (heapTr f heap) id0 (some blk') i).isSome = true → upd φ id0 pl' i = some q → (heap i).isSome = true ∧ φ i = some q := fun i q hi hs hp => by
      rw [upd_ne _ _ _ hi] at hs hp
      rw [heapTr_isSome] at hs
      exact ⟨hs, hp⟩
    have cross : ∀ i q q', i ≠ id0 → (upd (heapTr f heap) id0 (some blk') i).isSome = true → upd φ id0 pl' i = some q → pl' = some q' → q.b ≠ q'.b := fun i q q' hi hs hp hq he => by
      obtain ⟨s1, s2⟩ := old i q hi hs hp
      rcases (C.pl q' hq).2 with h | ⟨r, r1, r2, r3⟩
      · have := (H.own i q s1 s2).1; omega
      · exact hi (H.inj i id0 q r s1 r1 s2 r2 (by omega))
    by_cases hk : id = id0 <;> by_cases hk' : id' = id0
    · omega
    · subst hk
      rw [upd_same] at h3
      exact absurd h5.symm (cross id' pl2 pl hk' h2 h4 h3)
    · subst hk'
      rw [upd_same] at h4
      exact absurd h5 (cross id pl pl2 hk h1 h3 h4)
    · obtain ⟨s1, s2⟩ := old id pl hk h1 h3
      obtain ⟨s3, s4⟩ := old id' pl2 hk' h2 h4
      exact H.inj id id' pl pl2 s1 s3 s2 s4 h5
  · by_cases hk : id = id0
    · subst hk
      rw [upd_same] at h2
      obtain ⟨g1, g2⟩ := C.pl pl h2
      refine ⟨g1, ?_⟩
      rcases g2 with h | ⟨r, r1, r2, r3⟩
      · exact .inl (Nat.le_trans H.size h)
      · rw [← r3]; exact (H.own _ r r1 r2).2
    · rw [upd_ne _ _ _ hk] at h1 h2
      rw [heapTr_isSome] at h1
      obtain ⟨g1, g2⟩ := H.own id pl h1 h2
      exact ⟨Nat.lt_of_lt_of_le g1 C.size, g2⟩
  · rw [← H.old b hb hm]
    refine C.same b (Nat.lt_of_lt_of_le hb H.size) fun pl hs hp he => ?_
    rcases (H.own id0 pl hs hp).2 with h | h
    · omega
    · exact hm (he ▸ h.1)
theorem Chg.keep (C : Chg φ heap w w' id0 pl') (H : HRep w0 mine ok0 φ heap w) (hsame : heap id0 = none ∨ ∃ b, heap id0 = some b ∧ b.len = blk'.len ∧ pl' = φ id0) (e : E) (u : Value)
    (h : RepE w (okOf w0 ok0 φ heap w) φ (lnOf heap) e u) : RepE w' (okOf w0 ok0 (upd φ id0 pl') (upd (heapTr (fun e => e) heap) id0 (some blk')) w') (upd φ id0 pl') (lnOf (upd (heapTr (fun e => e) heap) id0 (some blk'))) e u := by
  refine h.mono' (C.ok H) fun id L hl => ?_
  rw [lnOf_upd, lnOf_tr]
  by_cases hk : id = id0
  · subst hk
    rw [if_pos rfl, upd_same]
    rcases hsame with hn | ⟨b, hb, h1, h2⟩
    · simp [lnOf, hn] at hl
    · simp only [lnOf, hb, Option.map_some, Option.some.injEq] at hl
      exact ⟨by rw [← h1, hl], h2⟩
  · rw [if_neg hk, upd_ne _ _ _ hk]
    exact ⟨hl, rfl⟩
theorem Chg.kill (C : Chg φ heap w w' id0 pl') (H : HRep w0 mine ok0 φ heap w) (e : E) (u : Value)
    (h : RepE w (okOf w0 ok0 φ heap w) φ (lnOf heap) e u) : RepE w' (okOf w0 ok0 (upd φ id0 pl') (upd (heapTr (E.kill id0) heap) id0 (some blk')) w') (upd φ id0 pl') (lnOf (upd (heapTr (E.kill id0) heap) id0 (some blk'))) (e.kill id0) u := by
  unfold E.kill
  split
  · rename_i hi
    refine h.mono _ (C.ok H) (fun id L hp hl => ?_) hi
    have hk : id ≠ id0 := by simpa using hp
    rw [lnOf_upd, lnOf_tr, if_neg hk, upd_ne _ _ _ hk]
    exact ⟨hl, rfl⟩
  · exact .dead u
end
theorem tmps_set {w : World} {ok : Nat → Prop} {φ : Nat → Option Pl} {ln : Nat → Option Nat} {env : Env} {a : Act} {N : Nat} (R : ∀ t, RepE w ok φ ln (env t) (a.tmps.getD t undef)) (hn : a.tmps.size = N) (d : Option Nat) (hd : ∀ t, d = some t → t < N)
    {e : E} {u : Value} (h : RepE w ok φ ln e u) (S : St) (hS : S.env = env) : (∀ t, RepE w ok φ ln ((S.put d e).env t) ((a.put d u).tmps.getD t undef)) ∧ (a.put d u).tmps.size = N ∧ (a.put d u).defers = a.defers ∧ (S.put d e).heap = S.heap := by
  cases d with
  | none => exact ⟨by simpa [St.put, Act.put, hS] using R, hn, rfl, rfl⟩
  | some d =>
    refine ⟨fun t => ?_, by simp [Act.put, hn], rfl, rfl⟩
    have hdN := hd d rfl
    simp only [St.put, Act.put, upd]
    by_cases ht : t = d
    · subst ht
      rw [if_pos rfl]
      have : (a.tmps.setIfInBounds t u).getD t undef = u := by simp [hn, hdN]
      rw [this]
      exact h
    · rw [if_neg ht]
      have : (a.tmps.setIfInBounds d u).getD t undef = a.tmps.getD t undef := by simp [Array.getElem?_setIfInBounds_ne (Ne.symm ht)]
      rw [this, hS]
      exact R t
end Go.Proofs.YtmjkhbjfacfmcaaGreatDoor.VX
end
section
namespace Go.Proofs.YtmjkhbjfacfmcaaGreatDoor.VX
open Go Go.RowKit
set_option linter.unusedVariables false
set_option linter.unusedSimpArgs false
section
variable {w0 w w' : World} {mine ok0 : Nat → Prop} {φ : Nat → Option Pl} {heap : Heap} {nid : Nat} {P : Program}
structure Pushed (w w' : World) (cur : Array Value) (e : TypeId) : Prop where
  heap : w'.heap = w.heap.push (.cells cur e)
  os : w'.os = w.os
  tape : w'.tape = w.tape
  output : w'.output = w.output
theorem Pushed.alloc (w : World) (cur : Array Value) (e : TypeId) : Pushed w (w.alloc (.cells cur e)) cur e := ⟨rfl, rfl, rfl, rfl⟩
theorem Pushed.drew (w : World) (cur : Array Value) (e : TypeId) : Pushed w (w.drew.alloc (.cells cur e)) cur e := ⟨rfl, rfl, rfl, rfl⟩
theorem Pushed.chg {cur : Array Value} {e : TypeId} (p : Pushed w w' cur e) (φ : Nat → Option Pl) (heap : Heap) (id0 : Nat) (off sz cap : Nat) : Chg φ heap w w' id0 (some ⟨w.heap.size, off, sz, cap⟩) :=
  ⟨fun b hb _ => by rw [p.heap, Array.getElem?_push, if_neg (by omega)], by rw [p.heap]; simp, p.os, p.tape, p.output, fun pl h => by cases h; exact ⟨by rw [p.heap]; simp, .inl (Nat.le_refl _)⟩⟩
theorem Pushed.at {cur : Array Value} {e : TypeId} (p : Pushed w w' cur e) : w'.heap[w.heap.size]? = some (.cells cur e (0, 0)) := by rw [p.heap]; simp
def Next (w0 : World) (mine ok0 : Nat → Prop) (φ : Nat → Option Pl) (heap : Heap) (w : World) (heap' : Heap) (w' : World) (f : E → E) (r : E) (u : Value) : Prop :=
  ∃ φ', HRep w0 mine ok0 φ' heap' w' ∧ (∀ x v, RepE w (okOf w0 ok0 φ heap w) φ (lnOf heap) x v → RepE w' (okOf w0 ok0 φ' heap' w') φ' (lnOf heap') (f x) v) ∧ RepE w' (okOf w0 ok0 φ' heap' w') φ' (lnOf heap') r u ∧ ∀ k, k < 50 → φ' k = φ k ∧ lnOf heap' k = lnOf heap k
theorem snd_newM (h50 : 50 ≤ nid) (H : HRep w0 mine ok0 φ heap w) (hn : heap nid = none) {cs : List E} {cur : Array Value} {e : TypeId} (hp : Pushed w w' cur e) (h0 : 0 < cs.length) (hc : RepL w (okOf w0 ok0 φ heap w) φ (lnOf heap) cs cur.toList) :
    Next w0 mine ok0 φ heap w (upd heap nid (some (.m e cs))) w' (fun e => e) (.op nid 0 0) (.pointer (some ⟨w.heap.size, 0, none⟩)) := by
  have C := hp.chg φ heap nid 0 cs.length 1
  have K := C.keep (blk' := .m e cs) H (.inl hn)
  have hlen : cur.size = cs.length := by simpa using hc.1
  have hR := C.rep (f := fun e => e) (blk' := .m e cs) H K ⟨_, cur, upd_same _ _ _, rfl, rfl, rfl, hp.at, hlen, fun f x hf => by
    have hlt : f < cur.size := by rw [hlen]; exact (List.getElem?_eq_some_iff.1 hf).1
    have hu : cur.toList[f]? = some cur[f] := by simp [hlt]
    exact ⟨cur[f], by simp [hlt], hc.2.1 _ (List.mem_of_getElem? hu), K _ _ (hc.2.2 f x _ hf hu)⟩⟩
  rw [heapTr_id] at hR K
  refine ⟨_, hR, K, ?_, fun k hk => ⟨upd_ne _ _ _ (by omega), by rw [lnOf_upd, if_neg (by omega)]⟩⟩
  have := RepE.op (w := w') (ok := okOf w0 ok0 (upd φ nid (some ⟨w.heap.size, 0, cs.length, 1⟩)) (upd heap nid (some (.m e cs))) w') (φ := upd φ nid (some ⟨w.heap.size, 0, cs.length, 1⟩)) (ln := lnOf (upd heap nid (some (.m e cs)))) nid 0 0 _ 1 (by rw [lnOf_upd, if_pos rfl]; rfl) (upd_same _ _ _) (by omega) h0
  simpa using this
theorem snd_newP (h50 : 50 ≤ nid) (H : HRep w0 mine ok0 φ heap w) (hn : heap nid = none) {sz cap : Nat} {l : List (List V)} {cur : Array Value} {e : TypeId} (hp : Pushed w w' cur e) (h0 : 0 < sz) (h1 : ∀ r ∈ l, r.length = sz) (h2 : l.length ≤ cap) (h3 : cap ≤ maxLen) (h4 : cap * sz ≤ cur.size)
    (hc : ∀ (j f : Nat) r x, l[j]? = some r → r[f]? = some x → ∃ u, cur[j * sz + f]? = some u ∧ u.oneCell' = true ∧ RepV w (okOf w0 ok0 φ heap w) x u) :
    Next w0 mine ok0 φ heap w (upd heap nid (some (.p e sz l))) w' (fun e => e) (.os nid 0 l.length) (.slice (some ⟨w.heap.size, 0, none⟩) l.length cap) := by
  have C := hp.chg φ heap nid 0 sz cap
  have K := C.keep (blk' := .p e sz l) H (.inl hn)
  have hR := C.rep (f := fun e => e) (blk' := .p e sz l) H K ⟨h0, .inr ⟨_, cur, upd_same _ _ _, rfl, h2, h3, h1, hp.at, by simpa using h4, fun j f r x hj hf => by
    obtain ⟨u, hu, ho, hr⟩ := hc j f r x hj hf
    exact ⟨u, by simpa using hu, ho, hr.mono (C.ok H)⟩⟩⟩
  rw [heapTr_id] at hR K
  refine ⟨_, hR, K, ?_, fun k hk => ⟨upd_ne _ _ _ (by omega), by rw [lnOf_upd, if_neg (by omega)]⟩⟩
  exact .os nid 0 l.length _ cap _ l.length (by rw [lnOf_upd, if_pos rfl]; rfl) (upd_same _ _ _) (by omega) h2 (by simp) (fun _ => by simp)
theorem setRow_chg {id : Nat} {b : Blk} {pl : Pl} {old cur : Array Value} {e : TypeId} (hb : heap id = some b) (hp : φ id = some pl) (hh : w.heap[pl.b]? = some (.cells old e (0, 0))) (H : HRep w0 mine ok0 φ heap w) :
    Chg φ heap w (w.setRow pl.b cur) id (φ id) := by
  refine ⟨fun k hk hne => setRow_other w pl.b k cur (fun he => hne pl (by rw [hb]; rfl) hp he.symm), by simp, rfl, rfl, rfl, fun q hq => ?_⟩
  rw [hp] at hq
  cases hq
  exact ⟨by simpa using (H.own id pl (by rw [hb]; rfl) hp).1, .inr ⟨pl, by rw [hb]; rfl, hp, rfl⟩⟩
theorem upd_self {α : Type} (g : Nat → α) (i : Nat) : upd g i (g i) = g := by funext k; unfold upd; split <;> simp_all
theorem snd_setM (H : HRep w0 mine ok0 φ heap w) {id f : Nat} {e : TypeId} {cs p : List E} {pl : Pl} {q : List Value} (hb : heap id = some (.m e cs)) (hp : φ id = some pl) (hq : RepL w (okOf w0 ok0 φ heap w) φ (lnOf heap) p q) (hl : f + p.length ≤ cs.length) :
    ∃ cur, w.heap[pl.b]? = some (.cells cur e (0, 0)) ∧ pl.off = 0 ∧ f + q.length ≤ cur.size ∧
      Next w0 mine ok0 φ heap w (upd heap id (some (.m e (splice cs p f)))) (w.setRow pl.b (splice cur.toList q f).toArray) (fun e => e) (.v (.tu [])) undef := by
  obtain ⟨pl', cur, g1, g2, g3, g4, g5, g6, g7⟩ := H.blk id _ hb
  obtain rfl : pl = pl' := by rw [hp] at g1; exact Option.some.inj g1
  have e1 := hq.1
  refine ⟨cur, g5, g2, by omega, ?_⟩
  have C : Chg φ heap w (w.setRow pl.b (splice cur.toList q f).toArray) id (φ id) := setRow_chg hb hp g5 H
  have K := C.keep (blk' := .m e (splice cs p f)) H (.inr ⟨_, hb, rfl, rfl⟩)
  have hcs : RepL w (okOf w0 ok0 φ heap w) φ (lnOf heap) cs cur.toList := by
    refine ⟨by simpa using g6, fun u hu => ?_, fun i x u hx hu => ?_⟩
    · obtain ⟨i, hi⟩ := List.mem_iff_getElem?.1 hu
      have hi' : cur[i]? = some u := by simpa using hi
      obtain ⟨v, hv, ho, _⟩ := g7 i _ (List.getElem?_eq_getElem (show i < cs.length by have := (Array.getElem?_eq_some_iff.1 hi').1; omega))
      rw [hi'] at hv
      cases hv
      exact ho
    · obtain ⟨v, hv, _, hr⟩ := g7 i x hx
      have hu' : cur[i]? = some u := by simpa using hu
      rw [hu'] at hv
      cases hv
      exact hr
  have hsp := hcs.splice hq hl
  have hR := C.rep (f := fun e => e) (blk' := .m e (splice cs p f)) H K ⟨pl, _, by rw [upd_same]; exact hp, g2, by rw [splice_length hl]; exact g3, g4, setRow_heap w pl.b cur _ e _ g5, by have := hsp.1; simpa using this, fun k x hk => by
    have hlt : k < (splice cur.toList q f).length := by rw [hsp.1]; exact (List.getElem?_eq_some_iff.1 hk).1
    have hu := List.getElem?_eq_getElem hlt
    exact ⟨_, by rw [List.getElem?_toArray]; exact hu, hsp.2.1 _ (List.mem_of_getElem? hu), K _ _ (hsp.2.2 k x _ hk hu)⟩⟩
  rw [heapTr_id] at hR K
  exact ⟨_, hR, K, .v _ _ (.tu [] #[] rfl (by simp)), fun k hk => ⟨by rw [upd_self], by
    rw [lnOf_upd]
    split
    · rename_i he; subst he; simp [lnOf, hb, Blk.len]
    · rfl⟩⟩
def RepVs (w : World) (ok : Nat → Prop) (cs : List V) (us : List Value) : Prop :=
  us.length = cs.length ∧ (∀ u ∈ us, u.oneCell' = true) ∧ ∀ (i : Nat) x u, cs[i]? = some x → us[i]? = some u → RepV w ok x u
theorem repVs_of {ok : Nat → Prop} {ln : Nat → Option Nat} {cs : List V} {us : List Value} (h : RepL w ok φ ln (cs.map .v) us) : RepVs w ok cs us :=
  ⟨by simpa using h.1, h.2.1, fun i x u hx hu => by
    have := h.2.2 i (.v x) u (by simp [hx]) hu
    cases this with | v _ _ h => exact h⟩
theorem place_eq {j j' f f' sz n k : Nat} (h1 : f' < sz) (h2 : f + n ≤ sz) (h3 : k < n) (h : j' * sz + f' = j * sz + f + k) : j' = j ∧ f' = f + k := by
  have : j' = j := by
    rcases Nat.lt_trichotomy j' j with hlt | he | hgt
    · have := Nat.mul_le_mul_right sz (show j' + 1 ≤ j from hlt)
      rw [Nat.add_mul, Nat.one_mul] at this
      omega
    · exact he
    · have := Nat.mul_le_mul_right sz (show j + 1 ≤ j' from hgt)
      rw [Nat.add_mul, Nat.one_mul] at this
      omega
  subst this
  exact ⟨rfl, by omega⟩
theorem snd_setP (H : HRep w0 mine ok0 φ heap w) {id j f : Nat} {e : TypeId} {sz : Nat} {l : List (List V)} {r p : List V} {pl : Pl} {q : List Value} (hb : heap id = some (.p e sz l)) (hp : φ id = some pl) (hj : l[j]? = some r) (hq : RepVs w (okOf w0 ok0 φ heap w) p q) (hl : f + p.length ≤ sz) :
    ∃ cur, w.heap[pl.b]? = some (.cells cur e (0, 0)) ∧ pl.off + (j * sz + f) + q.length ≤ cur.size ∧ pl.sz = sz ∧
      Next w0 mine ok0 φ heap w (upd heap id (some (.p e sz (l.set j (splice r p f))))) (w.setRow pl.b (splice cur.toList q (pl.off + (j * sz + f))).toArray) (fun e => e) (.v (.tu [])) undef := by
  obtain ⟨g0, g | ⟨pl', cur, g1, g2, g3, g4, g5, g6, g7, g8⟩⟩ := H.blk id _ hb
  · rw [g.1] at hp; cases hp
  obtain rfl : pl = pl' := by rw [hp] at g1; exact Option.some.inj g1
  have e1 := hq.1
  have hjl : j < l.length := (List.getElem?_eq_some_iff.1 hj).1
  have hrl : r.length = sz := g5 r (List.mem_of_getElem? hj)
  have hfit : pl.off + (j * sz + f) + q.length ≤ cur.size := by
    have := Nat.mul_le_mul_right sz (show j + 1 ≤ pl.cap by omega)
    rw [Nat.add_mul, Nat.one_mul] at this
    omega
  refine ⟨cur, g6, hfit, g2, ?_⟩
  have C : Chg φ heap w (w.setRow pl.b (splice cur.toList q (pl.off + (j * sz + f))).toArray) id (φ id) := setRow_chg hb hp g6 H
  have K := C.keep (blk' := .p e sz (l.set j (splice r p f))) H (.inr ⟨_, hb, by simp [Blk.len], rfl⟩)
  have hR := C.rep (f := fun e => e) (blk' := .p e sz (l.set j (splice r p f))) H K ⟨g0, .inr ⟨pl, _, by rw [upd_same]; exact hp, g2, by simpa using g3, g4, fun r' hr' => by
      rcases List.mem_or_eq_of_mem_set hr' with h | rfl
      · exact g5 _ h
      · rw [splice_length (by omega), hrl], setRow_heap w pl.b cur _ e _ g6, by simp only [List.size_toArray]; rw [splice_length (by simp; omega)]; simpa using g7, fun j' f' r' x hj' hf' => by
    simp only [List.getElem?_toArray]
    rw [splice_get (by simp; omega)]
    have hf'l : f' < sz := by
      have h1 := (List.getElem?_eq_some_iff.1 hf').1
      rw [List.getElem?_set] at hj'
      split at hj'
      · cases hj'; rw [splice_length (by omega)] at h1; omega
      · have := g5 _ (List.mem_of_getElem? hj'); omega
    by_cases hin : pl.off + (j * sz + f) ≤ pl.off + (j' * sz + f') ∧ pl.off + (j' * sz + f') < pl.off + (j * sz + f) + q.length
    · rw [if_pos hin]
      obtain ⟨rfl, hk⟩ := place_eq (j := j) (j' := j') (f := f) (f' := f') (k := j' * sz + f' - (j * sz + f)) hf'l (show f + q.length ≤ sz by omega) (by omega) (by omega)
      rw [List.getElem?_set, if_pos rfl, if_pos hjl] at hj'
      cases hj'
      rw [splice_get (by omega), if_pos (by omega)] at hf'
      have hlt : f' - f < q.length := by omega
      refine ⟨q[f' - f], ?_, hq.2.1 _ (List.getElem_mem hlt), (hq.2.2 _ x _ hf' (List.getElem?_eq_getElem hlt)).mono (C.ok H)⟩
      rw [show pl.off + (j' * sz + f') - (pl.off + (j' * sz + f)) = f' - f by omega]
      exact List.getElem?_eq_getElem hlt
    · rw [if_neg hin]
      have hold : ∃ r0, l[j']? = some r0 ∧ r0[f']? = some x := by
        rw [List.getElem?_set] at hj'
        split at hj'
        · rename_i he
          subst he
          cases hj'
          rw [splice_get (by omega), if_neg (by omega)] at hf'
          exact ⟨r, hj, hf'⟩
        · exact ⟨r', hj', hf'⟩
      obtain ⟨r0, h1, h2⟩ := hold
      obtain ⟨u, hu, ho, hr⟩ := g8 j' f' r0 x h1 h2
      exact ⟨u, by simpa using hu, ho, hr.mono (C.ok H)⟩⟩⟩
  rw [heapTr_id] at hR K
  exact ⟨_, hR, K, .v _ _ (.tu [] #[] rfl (by simp)), fun k hk => ⟨by rw [upd_self], by
    rw [lnOf_upd]
    split
    · rename_i he; subst he; simp [lnOf, hb, Blk.len]
    · rfl⟩⟩
end
end Go.Proofs.YtmjkhbjfacfmcaaGreatDoor.VX
end
section
namespace Go.Proofs.YtmjkhbjfacfmcaaGreatDoor.VX
open Go Go.RowKit
set_option linter.unusedVariables false
set_option linter.unusedSimpArgs false
def contE (h : Heap) : E → Option (Nat × List (List V))
  | .v (.sl sz l) => some (sz, l)
  | .os id lo n => match h id with
    | some (.p _ sz l) => some (sz, (l.drop lo).take n)
    | _ => none
  | _ => none
section
variable {w0 w w' : World} {mine ok0 : Nat → Prop} {φ : Nat → Option Pl} {heap : Heap} {nid : Nat} {P : Program} {ok : Nat → Prop}
structure Cells (w : World) (ok : Nat → Prop) (sz : Nat) (l : List (List V)) (A : Option Addr) (m : Nat) (cells : List Value) : Prop where
  len : l.length = m
  row : ∀ r ∈ l, r.length = sz
  size : cells.length = m * sz
  at_ : ∀ (j : Nat) u, cells[j]? = some u → ∃ a, A = some a ∧ w.cell? (a.add j) = some u
  one : ∀ u ∈ cells, u.oneCell' = true
  rep : ∀ (j f : Nat) r x, l[j]? = some r → r[f]? = some x → ∃ u, cells[j * sz + f]? = some u ∧ RepV w ok x u
structure Cls (w : World) (ok : Nat → Prop) (sz : Nat) (l : List (List V)) (m : Nat) (cells : List Value) : Prop where
  len : l.length = m
  row : ∀ r ∈ l, r.length = sz
  size : cells.length = m * sz
  one : ∀ u ∈ cells, u.oneCell' = true
  rep : ∀ (j f : Nat) r x, l[j]? = some r → r[f]? = some x → ∃ u, cells[j * sz + f]? = some u ∧ RepV w ok x u
theorem Cells.cls {w : World} {ok : Nat → Prop} {sz : Nat} {l : List (List V)} {A : Option Addr} {m : Nat} {cells : List Value} (C : Cells w ok sz l A m cells) : Cls w ok sz l m cells := ⟨C.len, C.row, C.size, C.one, C.rep⟩
def bytesI (s : ByteArray) : List Int := s.data.toList.map fun b => (b.toNat : Int)
def bytesV (s : ByteArray) : List (List V) := (bytesI s).map fun b => [.sc (.int .u8 b)]
def contS (h : Heap) : E → Option (Nat × List (List V))
  | .v (.sc (.string s)) => some (1, bytesV s)
  | e => contE h e
theorem row_place {sz m j f : Nat} (hj : j < m) (hf : f < sz) : j * sz + f < m * sz := by
  have := Nat.mul_le_mul_right sz (show j + 1 ≤ m from hj)
  rw [Nat.add_mul, Nat.one_mul] at this
  omega
theorem cont_spec {e : E} {v : Value} {sz : Nat} {l : List (List V)} (hb : ∀ id b, heap id = some b → RepB w ok φ (lnOf heap) id b) (hv : RepE w ok φ (lnOf heap) e v) (h : contE heap e = some (sz, l)) (h0 : 0 < sz) :
    ∃ A m c cells, v = .slice A m c ∧ m ≤ c ∧ m ≤ maxLen ∧ (A = none → m = 0) ∧ Cells w ok sz l A m cells := by
  unfold contE at h
  split at h
  · cases h
    cases hv with | v _ _ hv =>
    cases hv with
    | sn => exact ⟨none, 0, 0, [], rfl, Nat.le_refl _, by simp, fun _ => rfl, rfl, by simp, by simp, by simp, by simp, by simp⟩
    | sl _ _ a n c g0 g1 g2 g3 ha u hc hh =>
      have hget : ∀ k, k < n * sz → ∃ r x, l[k / sz]? = some r ∧ r[k % sz]? = some x := fun k hk => by
        have h1 : k / sz < n := Nat.div_lt_of_lt_mul (by rw [Nat.mul_comm]; exact hk)
        have h2 := Nat.mod_lt k h0
        have h3 := g3 _ (List.getElem_mem (show k / sz < l.length by omega))
        exact ⟨_, _, List.getElem?_eq_getElem (by omega), List.getElem?_eq_getElem (by omega)⟩
      have cget : ∀ (k : Nat) v, ((List.range (n * sz)).map fun k => u (k / sz) (k % sz))[k]? = some v → k < n * sz ∧ v = u (k / sz) (k % sz) := fun k v hk => by
        rw [List.getElem?_map, Option.map_eq_some_iff] at hk
        obtain ⟨m, hm, rfl⟩ := hk
        obtain ⟨h1, rfl⟩ := range_get hm
        exact ⟨h1, rfl⟩
      refine ⟨some a, n, c, (List.range (n * sz)).map fun k => u (k / sz) (k % sz), rfl, g1, by omega, by simp, g0, g3, by simp, fun k v hk => ?_, fun v hv => ?_, fun j f r x hj hf => ?_⟩
      · obtain ⟨h1, rfl⟩ := cget k v hk
        obtain ⟨r, x, h2, h3⟩ := hget k h1
        have := (hc _ _ r x h2 h3).1
        rw [Nat.mul_comm, Nat.div_add_mod] at this
        exact ⟨a, rfl, this⟩
      · obtain ⟨k, hk⟩ := List.mem_iff_getElem?.1 hv
        obtain ⟨h1, rfl⟩ := cget k v hk
        obtain ⟨r, x, h2, h3⟩ := hget k h1
        exact (hc _ _ r x h2 h3).2
      · have hj' := (List.getElem?_eq_some_iff.1 hj).1
        have hf' : f < sz := by have := (List.getElem?_eq_some_iff.1 hf).1; have := g3 r (List.mem_of_getElem? hj); omega
        refine ⟨u j f, ?_, hh j f r x hj hf⟩
        rw [List.getElem?_map, List.getElem?_range (row_place (by omega) hf')]
        simp only [Option.map_some]
        rw [Nat.mul_comm j sz, Nat.mul_add_div h0, Nat.mul_add_mod, Nat.div_eq_of_lt hf', Nat.mod_eq_of_lt hf', Nat.add_zero]
  · rename_i id lo n
    split at h
    · rename_i e0 sz' l0 hid
      cases h
      obtain ⟨g0, g⟩ := hb id _ hid
      cases hv with
      | osn _ L hl hp =>
        rcases g with ⟨_, rfl⟩ | ⟨pl, cur, g1, _⟩
        · exact ⟨none, 0, 0, [], rfl, Nat.le_refl _, by simp, fun _ => rfl, by simp, by simp, by simp, by simp, by simp, by simp⟩
        · rw [hp] at g1; cases g1
      | os _ _ _ a c pl L hl hp h1 h2 h3 ha =>
        rcases g with ⟨g1, _⟩ | ⟨pl', cur, g1, g2, g3, g4, g5, g6, g7, g8⟩
        · rw [hp] at g1; cases g1
        obtain rfl : pl = pl' := by rw [hp] at g1; exact Option.some.inj g1
        obtain rfl : l0.length = L := by simpa [lnOf, hid, Blk.len] using hl
        have hlen : ((l0.drop lo).take n).length = n := by simp; omega
        have hget : ∀ (j : Nat) r, ((l0.drop lo).take n)[j]? = some r → j < n ∧ l0[lo + j]? = some r := fun j r hj => by
          rw [List.getElem?_take] at hj
          split at hj
          · rename_i hlt; exact ⟨hlt, by rwa [List.getElem?_drop] at hj⟩
          · cases hj
        have hfit : pl.off + (lo * sz + n * sz) ≤ cur.size := by
          have := Nat.mul_le_mul_right sz (show lo + n ≤ pl.cap by omega)
          rw [Nat.add_mul] at this
          omega
        have hcell : ∀ (k : Nat) v, ((cur.toList.drop (pl.off + lo * sz)).take (n * sz))[k]? = some v → k < n * sz ∧ cur[pl.off + lo * sz + k]? = some v := fun k v hk => by
          rw [List.getElem?_take] at hk
          split at hk
          · rename_i hlt; exact ⟨hlt, by rw [List.getElem?_drop] at hk; simpa using hk⟩
          · cases hk
        have hone : ∀ (k : Nat) v, k < n * sz → cur[pl.off + lo * sz + k]? = some v → v.oneCell' = true := fun k v hk hv => by
          have q1 : k / sz < n := Nat.div_lt_of_lt_mul (by rw [Nat.mul_comm]; exact hk)
          have q2 := Nat.mod_lt k h0
          have q3 : lo + k / sz < l0.length := by omega
          have q4 := g5 _ (List.getElem_mem q3)
          obtain ⟨u, hu, ho, _⟩ := g8 (lo + k / sz) (k % sz) _ _ (List.getElem?_eq_getElem q3) (List.getElem?_eq_getElem (by omega))
          rw [Nat.add_mul, Nat.add_assoc, Nat.mul_comm (k / sz), Nat.div_add_mod, ← Nat.add_assoc, hv] at hu
          cases hu
          exact ho
        refine ⟨some a, n, c, (cur.toList.drop (pl.off + lo * sz)).take (n * sz), rfl, h2, by omega, by simp, hlen, fun r hr => g5 _ (List.mem_of_mem_drop (List.mem_of_mem_take hr)), by simp; omega, fun k v hk => ?_, fun v hv => ?_, fun j f r x hj hf => ?_⟩
        · obtain ⟨q1, q2⟩ := hcell k v hk
          refine ⟨a, rfl, ?_⟩
          have : 0 < n := by
            rcases Nat.eq_zero_or_pos n with rfl | h
            · simp at q1
            · exact h
          rw [ha (by omega), add_at, cell_of_row w pl.b _ cur e0 (0, 0) g6, g2]
          exact q2
        · obtain ⟨k, hk⟩ := List.mem_iff_getElem?.1 hv
          obtain ⟨q1, q2⟩ := hcell k v hk
          exact hone k v q1 q2
        · obtain ⟨q1, q2⟩ := hget j r hj
          have hf' : f < sz := by have := (List.getElem?_eq_some_iff.1 hf).1; have := g5 r (List.mem_of_getElem? q2); omega
          obtain ⟨u, hu, ho, hr⟩ := g8 (lo + j) f r x q2 hf
          refine ⟨u, ?_, hr⟩
          rw [List.getElem?_take, if_pos (row_place q1 hf'), List.getElem?_drop, Array.getElem?_toList]
          rw [Nat.add_mul] at hu
          rw [← hu]
          congr 1
          omega
    · cases h
  · cases h
theorem run_first {A : Option Addr} {sz m c : Nat} {cells : List Value} {l : List (List V)} (h : Cells w ok sz l A m cells) (hn : A = none → m = 0) (w' : World) (hw : w'.heap = w.heap) : (Builtin.firstCells sz m (.slice A m c)).run P w' = .ok cells.toArray w' := by
  cases A with
  | none =>
    have : cells = [] := List.eq_nil_of_length_eq_zero (by rw [h.size, hn rfl]; simp)
    subst this
    simp [Builtin.firstCells]
  | some a =>
    refine run_firstCells_some (P := P) w' sz m a m c cells h.size fun j v hj => ?_
    obtain ⟨b, hb, hc⟩ := h.at_ j v hj
    cases hb
    rw [← hc]
    simp [World.cell?, hw]
theorem src_spec {e : E} {v : Value} {sz : Nat} {l : List (List V)} (hb : ∀ id b, heap id = some b → RepB w ok φ (lnOf heap) id b) (hv : RepE w ok φ (lnOf heap) e v) (h : contS heap e = some (sz, l)) (h0 : 0 < sz) :
    ∃ m news, (∀ w, (Builtin.lenOf v).run P w = .ok m w) ∧ (∀ w', w'.heap = w.heap → (Builtin.firstCells sz m v).run P w' = .ok news.toArray w') ∧ Cls w ok sz l m news := by
  unfold contS at h
  split at h
  · rename_i s
    cases h
    cases hv with | v _ _ hv =>
    cases hv
    refine ⟨s.size, s.data.toList.map fun b => .int .u8 b.toNat, fun w => by simp [Builtin.lenOf], fun w' _ => ?_, ?_, fun r hr => ?_, ?_, fun u hu => ?_, fun j f r x hj hf => ?_⟩
    · simp only [Builtin.firstCells, Sem.run_pure]
      congr 1
      apply Array.ext'
      simp
    · simp [bytesV, bytesI]
    · simp only [bytesV, List.mem_map] at hr
      obtain ⟨b, _, rfl⟩ := hr
      rfl
    · simp
    · simp only [List.mem_map] at hu
      obtain ⟨b, _, rfl⟩ := hu
      rfl
    · simp only [bytesV, bytesI, List.map_map, List.getElem?_map, Option.map_eq_some_iff] at hj
      obtain ⟨b, hb, rfl⟩ := hj
      cases f with
      | zero =>
        obtain rfl : V.sc (.int .u8 (b.toNat : Int)) = x := by simpa using hf
        exact ⟨_, by rw [List.getElem?_map, Nat.mul_one, Nat.add_zero, hb]; rfl, .sc _⟩
      | succ f => simp at hf
  · obtain ⟨A, m, c, cells, rfl, g1, g2, g3, C⟩ := cont_spec hb hv h h0
    exact ⟨m, cells, fun w => by simp [Builtin.lenOf], fun w' hw => run_first C g3 w' hw, C.cls⟩
theorem not_int {d : TypeDesc} (h : ∀ k, d ≠ .int k) : (match d with | .int _ => true | _ => false) = false := by
  cases d
  case int k => exact absurd rfl (h k)
  all_goals rfl
theorem run_app {t t2 ty e : TypeId} {i : TypeInfo} {z : Value} {d2 : TypeDesc} (ht : P.underlying t = some (.slice e)) (ht2 : P.underlying t2 = some d2) (hd2 : ∀ k, d2 ≠ .int k) (hi : P.info? e = some i) (hz : i.zero = some z)
    {A : Option Addr} {n c : Nat} {x : Value} {m : Nat} {olds news : List Value} (hlen : ∀ w, (Builtin.lenOf x).run P w = .ok m w)
    (hold : ∀ w', w'.heap = w.heap → (Builtin.firstCells i.size n (.slice A n c)).run P w' = .ok olds.toArray w') (hnew : ∀ w', w'.heap = w.heap → (Builtin.firstCells i.size m x).run P w' = .ok news.toArray w')
    (hbytes : (n + m) * i.bytes ≤ 140737488355328) (h63 : n + m ≤ 9223372036854775807) :
    (n + m ≤ c → ∀ w', (match A with | some a => storeCells (a.add (n * i.size)) news | none => pure ()).run P w = .ok () w' → (Builtin.append_ #[t, t2] ty #[.slice A n c, x]).run P w = .ok (.slice A (n + m) c) w') ∧
    (c < n + m → (Builtin.append_ #[t, t2] ty #[.slice A n c, x]).run P w =
      .ok (.slice (some ⟨w.heap.size, 0, none⟩) (n + m) (grownCap w (n + m) c e)) (w.drew.alloc (.cells (olds.toArray ++ news.toArray ++ Builtin.zeroCells z.cells (grownCap w (n + m) c e - (n + m))) e))) := by
  have hz2 := not_int hd2
  constructor
  · intro hr w' hst
    have hn := hnew w rfl
    cases A with
    | none =>
      simp at hst
      subst hst
      simp [Builtin.append_, run_underlying ht, run_underlying ht2, Go.sizeOf, typeInfo, hi, hlen, hr, hn, hz2]
    | some a =>
      simp only at hst
      simp [Builtin.append_, run_underlying ht, run_underlying ht2, Go.sizeOf, typeInfo, hi, hlen, hr, hn, hz2, hst]
  · intro hg
    have hn : ¬ (n + m ≤ c) := by omega
    have h63' : ¬ (9223372036854775807 < ((n : Int) + (m : Int))) := by omega
    have hfit := growslice_fits (need := n + m) (old := c) (bytes := i.bytes) hg hbytes
    have h48' : ¬ (281474976710656 < Builtin.nextslicecap (n + m) c * i.bytes) := by omega
    have hf := hnew w.drew rfl
    have hfo := hold w.drew rfl
    simp [Builtin.append_, run_underlying ht, run_underlying ht2, Go.sizeOf, typeInfo, zeroValue, hi, hz, hlen, hn, h63', h48', Question.forced, hf, hfo, newRow, grownCap, hz2]
    congr 2
    apply Array.ext'
    simp [List.append_assoc]
end
end Go.Proofs.YtmjkhbjfacfmcaaGreatDoor.VX
end
section
namespace Go.Proofs.YtmjkhbjfacfmcaaGreatDoor.VX
open Go Go.RowKit
set_option linter.unusedVariables false
set_option linter.unusedSimpArgs false
section
variable {w0 w w' : World} {mine ok0 : Nat → Prop} {φ : Nat → Option Pl} {heap : Heap} {nid : Nat} {P : Program} {ok : Nat → Prop}
theorem Cells.app {sz : Nat} {l l2 : List (List V)} {A : Option Addr} {m m2 : Nat} {c c2 : List Value} (h : Cells w ok sz l A m c) (k : Cls w ok sz l2 m2 c2) (j f : Nat) (r : List V) (x : V) (h0 : 0 < sz)
    (hj : (l ++ l2)[j]? = some r) (hf : r[f]? = some x) : ∃ u, (c ++ c2)[j * sz + f]? = some u ∧ u.oneCell' = true ∧ RepV w ok x u := by
  have e1 := h.size
  have e2 := h.len
  rw [List.getElem?_append] at hj
  split at hj
  · rename_i hlt
    obtain ⟨u, hu, hr⟩ := h.rep j f r x hj hf
    have := (List.getElem?_eq_some_iff.1 hu).1
    exact ⟨u, by rw [List.getElem?_append_left this]; exact hu, h.one u (List.mem_of_getElem? hu), hr⟩
  · rename_i hge
    obtain ⟨u, hu, hr⟩ := k.rep _ f r x hj hf
    refine ⟨u, ?_, k.one u (List.mem_of_getElem? hu), hr⟩
    have h1 : l.length * sz ≤ j * sz := Nat.mul_le_mul_right sz (by omega)
    rw [List.getElem?_append_right (by rw [e1, ← e2]; omega), e1, ← e2, ← hu, Nat.sub_mul]
    congr 1
    omega
theorem RepB.rows {w : World} {ok : Nat → Prop} {φ : Nat → Option Pl} {ln : Nat → Option Nat} {id sz e : Nat} {l l2 : List (List V)} {c c2 cur : List Value} {m m2 : Nat} {A : Option Addr} {w1 : World} {ok1 : Nat → Prop} (h : Cells w1 ok1 sz l A m c) (k : Cls w1 ok1 sz l2 m2 c2) (h0 : 0 < sz) {pl : Pl}
    (hm : ∀ x u, RepV w1 ok1 x u → RepV w ok x u) (hp : φ id = some pl) (h1 : pl.sz = sz) (h2 : m + m2 ≤ pl.cap) (h3 : pl.cap ≤ maxLen) (h4 : w.heap[pl.b]? = some (.cells cur.toArray e (0, 0))) (h5 : pl.off + pl.cap * sz ≤ cur.length)
    (hc : ∀ (k : Nat) u, (c ++ c2)[k]? = some u → cur[pl.off + k]? = some u) : RepB w ok φ ln id (.p e sz (l ++ l2)) := by
  refine ⟨h0, .inr ⟨pl, cur.toArray, hp, h1, by rw [List.length_append, h.len, k.len]; exact h2, h3, fun r hr => ?_, h4, by simpa using h5, fun j f r x hj hf => ?_⟩⟩
  · rcases List.mem_append.1 hr with hr | hr
    · exact h.row r hr
    · exact k.row r hr
  · obtain ⟨u, hu, ho, hr⟩ := h.app k j f r x h0 hj hf
    exact ⟨u, by simpa using hc _ u hu, ho, hm _ _ hr⟩
theorem snd_app {id lo n : Nat} (h50 : 50 ≤ id) {t t2 ty e : TypeId} {i : TypeInfo} {z : Value} {d2 : TypeDesc} (ht : P.underlying t = some (.slice e)) (ht2 : P.underlying t2 = some d2) (hd2 : ∀ k, d2 ≠ .int k) (hi : P.info? e = some i) (hz : i.zero = some z) (hzs : z.cells.size = i.size) (h0 : 0 < i.size)
    (H : HRep w0 mine ok0 φ heap w) {l nr : List (List V)} {s x : Value} {ex : E} (hb : heap id = some (.p e i.size l)) (hs : RepE w (okOf w0 ok0 φ heap w) φ (lnOf heap) (.os id lo n) s)
    (hx : RepE w (okOf w0 ok0 φ heap w) φ (lnOf heap) ex x) (hc : contS heap ex = some (i.size, nr)) (hbytes : (n + nr.length) * i.bytes ≤ 140737488355328) (hby : 0 < i.bytes) :
    ∃ u w', (Builtin.append_ #[t, t2] ty #[s, x]).run P w = .ok u w' ∧ Next w0 mine ok0 φ heap w (upd (heapTr (E.kill id) heap) id (some (.p e i.size ((l.drop lo).take n ++ nr)))) w' (E.kill id) (.os id 0 (n + nr.length)) u := by
  obtain ⟨m, news, hlen, hnew, C2⟩ := src_spec (P := P) H.blk hx hc h0
  obtain ⟨A, n', c, olds, rfl, k1, k2, k3, C1⟩ := cont_spec H.blk hs (sz := i.size) (l := (l.drop lo).take n) (by unfold contE; simp only [hb]) h0
  have hnn : n' = n := by cases hs <;> rfl
  subst hnn
  obtain rfl : m = nr.length := C2.len.symm
  have hle : (n' + nr.length) * 1 ≤ (n' + nr.length) * i.bytes := Nat.mul_le_mul_left _ hby
  obtain ⟨room, grow⟩ := run_app (P := P) (ty := ty) (w := w) ht ht2 hd2 hi hz (A := A) (n := n') (c := c) (olds := olds) (news := news) hlen (fun w' hw => run_first C1 k3 w' hw) hnew hbytes (by omega)
  have hmax : n' + nr.length ≤ maxLen := by have : maxLen = 9223372036854775807 := by decide
                                            omega
  have e1 := C1.size
  have e2 := C2.size
  obtain ⟨_, hB⟩ := H.blk id _ hb
  by_cases hr : n' + nr.length ≤ c
  · have room := room hr
    cases hs with
    | osn _ L hl hp =>
      have hnr : nr.length = 0 := by omega
      have hnr0 : nr = [] := List.eq_nil_of_length_eq_zero hnr
      subst hnr0
      refine ⟨_, w, room w (by simp), ?_⟩
      have C : Chg φ heap w w id none := ⟨fun _ _ _ => rfl, Nat.le_refl _, rfl, rfl, rfl, fun pl h => by cases h⟩
      refine ⟨upd φ id none, C.rep (f := E.kill id) H (C.kill H) ⟨h0, .inl ⟨upd_same _ _ _, by simp⟩⟩, C.kill H, ?_, fun k hk => ⟨upd_ne _ _ _ (by omega), by rw [lnOf_upd, if_neg (by omega), lnOf_tr]⟩⟩
      exact .osn id _ (by rw [lnOf_upd, if_pos rfl]) (upd_same _ _ _)
    | os _ _ _ a _ pl L hl hp h1 h2 h3 ha =>
      rcases hB with ⟨q1, _⟩ | ⟨pl', cur, q1, q2, q3, q4, q5, q6, q7, q8⟩
      · rw [hp] at q1; cases q1
      obtain rfl : pl = pl' := by rw [hp] at q1; exact Option.some.inj q1
      have hfit : pl.off + (lo * i.size + c * i.size) ≤ cur.size := by
        have := Nat.mul_le_mul_right i.size h3
        rw [Nat.add_mul] at this
        omega
      have hnm : n' * i.size + nr.length * i.size ≤ c * i.size := by
        have := Nat.mul_le_mul_right i.size hr
        rwa [Nat.add_mul] at this
      have holds : ∀ (k : Nat) u, olds[k]? = some u → cur.toList[pl.off + lo * i.size + k]? = some u := fun k u hk => by
        obtain ⟨b, hb', hcell⟩ := C1.at_ k u hk
        cases hb'
        have hlt := (List.getElem?_eq_some_iff.1 hk).1
        have hn : 0 < n' := by
          rcases Nat.eq_zero_or_pos n' with rfl | h
          · rw [Nat.zero_mul] at e1; omega
          · exact h
        rw [ha (by omega), add_at, cell_of_row w pl.b _ cur e (0, 0) q6, q2] at hcell
        simpa using hcell
      by_cases hc0 : c = 0
      · have hn0 : n' = 0 := by omega
        have hnr0 : nr = [] := List.eq_nil_of_length_eq_zero (by omega)
        subst hc0 hn0 hnr0
        have hnews : news = [] := List.eq_nil_of_length_eq_zero (by simpa using e2)
        subst hnews
        refine ⟨_, w, room w (by simp [storeCells]), ?_⟩
        have C : Chg φ heap w w id (some ⟨pl.b, pl.off + lo * i.size, i.size, 0⟩) := ⟨fun _ _ _ => rfl, Nat.le_refl _, rfl, rfl, rfl, fun q h => by
          cases h
          exact ⟨(H.own id pl (by rw [hb]; rfl) hp).1, .inr ⟨pl, by rw [hb]; rfl, hp, rfl⟩⟩⟩
        refine ⟨_, C.rep (f := E.kill id) H (C.kill H) (RepB.rows (cur := cur.toList) C1 C2 h0 (fun x u h => h.mono (C.ok H)) (upd_same _ _ _) rfl (by simp) (by simp) (by simpa using q6) (by simp; omega) (fun k u hk => ?_)), C.kill H, ?_, fun k hk => ⟨upd_ne _ _ _ (by omega), by rw [lnOf_upd, if_neg (by omega), lnOf_tr]⟩⟩
        · have : olds = [] := List.eq_nil_of_length_eq_zero (by simpa using e1)
          subst this
          simp at hk
        · exact .os id 0 _ a 0 _ _ (by rw [lnOf_upd, if_pos rfl]) (upd_same _ _ _) (by simp) (by simp) (by simp) (fun h => absurd h (by omega))
      · have hcp : 0 < c := by omega
        have hst := run_storeCells_at P pl.b (pl.off + lo * i.size + n' * i.size) e news 0 cur w q6 (by omega) C2.one
        simp only [Nat.add_zero] at hst
        refine ⟨_, _, room _ (by rw [ha hcp, q2]; simp only [add_at]; exact hst), ?_⟩
        have C : Chg φ heap w (w.setRow pl.b (splice cur.toList news (pl.off + lo * i.size + n' * i.size)).toArray) id (some ⟨pl.b, pl.off + lo * i.size, i.size, c⟩) := by
          have C0 := setRow_chg (cur := (splice cur.toList news (pl.off + lo * i.size + n' * i.size)).toArray) hb hp q6 H
          exact ⟨C0.same, C0.size, C0.os, C0.tape, C0.output, fun q h => by
            cases h
            exact ⟨by simpa using (H.own id pl (by rw [hb]; rfl) hp).1, .inr ⟨pl, by rw [hb]; rfl, hp, rfl⟩⟩⟩
        refine ⟨_, C.rep (f := E.kill id) H (C.kill H) (RepB.rows (cur := splice cur.toList news (pl.off + lo * i.size + n' * i.size)) C1 C2 h0 (fun x u h => h.mono (C.ok H)) (upd_same _ _ _) rfl hr (by show c ≤ maxLen; omega) (setRow_heap w pl.b cur _ e _ q6) (by rw [splice_length (by simp; omega)]; simp; omega) (fun k u hk => ?_)), C.kill H, ?_, fun k hk => ⟨upd_ne _ _ _ (by omega), by rw [lnOf_upd, if_neg (by omega), lnOf_tr]⟩⟩
        · rw [splice_get (by simp; omega)]
          rw [List.getElem?_append] at hk
          split at hk
          · rename_i hlt
            rw [if_neg (by simp only; omega)]
            exact holds k u hk
          · rename_i hge
            have hlt := (List.getElem?_eq_some_iff.1 hk).1
            rw [if_pos (by simp only; omega), ← hk]
            congr 1
            simp only
            omega
        · exact .os id 0 _ a c _ _ (by rw [lnOf_upd, if_pos rfl]) (upd_same _ _ _) (by simp only [Blk.len, List.length_append, C1.len]; omega) (by omega) (by simp) (fun _ => by rw [ha hcp, q2]; simp)
  · have grow := grow (by omega)
    have hcapge : n' + nr.length ≤ grownCap w (n' + nr.length) c e := grownCap_ge w _ _ _
    have hcaple : grownCap w (n' + nr.length) c e ≤ maxLen := grownCap_le_maxLen w _ _ _ hmax
    refine ⟨_, _, grow, ?_⟩
    have p := Pushed.drew w (olds.toArray ++ news.toArray ++ Builtin.zeroCells z.cells (grownCap w (n' + nr.length) c e - (n' + nr.length))) e
    have C := p.chg φ heap id 0 i.size (grownCap w (n' + nr.length) c e)
    have hat := p.at
    refine ⟨_, C.rep (f := E.kill id) H (C.kill H) (RepB.rows (cur := olds ++ news ++ (Builtin.zeroCells z.cells (grownCap w (n' + nr.length) c e - (n' + nr.length))).toList) C1 C2 h0 (fun x u h => h.mono (C.ok H)) (upd_same _ _ _) rfl hcapge hcaple (by
        rw [hat]
        congr 2
        apply Array.ext'
        simp) (by
        simp only [List.length_append, e1, e2, Array.length_toList, size_zeroCells, hzs, Nat.zero_add]
        rw [← Nat.add_mul, ← Nat.add_mul]
        exact Nat.mul_le_mul_right _ (by omega)) (fun k u hk => ?_)), C.kill H, ?_, fun k hk => ⟨upd_ne _ _ _ (by omega), by rw [lnOf_upd, if_neg (by omega), lnOf_tr]⟩⟩
    · simp only [Nat.zero_add]
      rw [List.getElem?_append_left (List.getElem?_eq_some_iff.1 hk).1]
      exact hk
    · exact .os id 0 _ _ _ _ _ (by rw [lnOf_upd, if_pos rfl]) (upd_same _ _ _) (by simp only [Blk.len, List.length_append, C1.len]; omega) hcapge (by simp) (fun _ => by simp)
end
end Go.Proofs.YtmjkhbjfacfmcaaGreatDoor.VX
end
section
namespace Go.Proofs.YtmjkhbjfacfmcaaGreatDoor.VX
open Go Go.RowKit
set_option linter.unusedVariables false
set_option linter.unusedSimpArgs false
section
variable {w0 w w' : World} {mine ok0 : Nat → Prop} {φ : Nat → Option Pl} {heap : Heap} {nid : Nat} {P : Program} {ok : Nat → Prop}
theorem zeros_get (z : Array Value) (n sz k : Nat) (h0 : 0 < sz) (hz : z.size = sz) (hk : k < n) : (madeCells z n)[k]? = some (z[k % sz]'(by rw [hz]; exact Nat.mod_lt _ h0)) := by
  have h1 : (Array.range n)[k]? = some k := by simp [hk]
  have h2 : k % sz < z.size := by rw [hz]; exact Nat.mod_lt _ h0
  simp only [madeCells, Array.getElem?_map, h1, Option.map_some, hz]
  simp [h2]
theorem snd_app0 (h50 : 50 ≤ nid) {t t2 ty e : TypeId} {i : TypeInfo} {z : Value} {d2 : TypeDesc} (ht : P.underlying t = some (.slice e)) (ht2 : P.underlying t2 = some d2) (hd2 : ∀ k, d2 ≠ .int k) (hi : P.info? e = some i) (hz : i.zero = some z) (hzs : z.cells.size = i.size) (h0 : 0 < i.size)
    (H : HRep w0 mine ok0 φ heap w) {nr : List (List V)} {x : Value} {ex : E} (hb : heap nid = none)
    (hx : RepE w (okOf w0 ok0 φ heap w) φ (lnOf heap) ex x) (hc : contS heap ex = some (i.size, nr)) (hbytes : nr.length * i.bytes ≤ 140737488355328) (hby : 0 < i.bytes) :
    ∃ u w', (Builtin.append_ #[t, t2] ty #[.slice none 0 0, x]).run P w = .ok u w' ∧ Next w0 mine ok0 φ heap w (upd heap nid (some (.p e i.size nr))) w' (fun e => e) (.os nid 0 nr.length) u := by
  obtain ⟨m, news, hlen, hnew, C2⟩ := src_spec (P := P) H.blk hx hc h0
  obtain rfl : m = nr.length := C2.len.symm
  have hle : nr.length * 1 ≤ nr.length * i.bytes := Nat.mul_le_mul_left _ hby
  obtain ⟨room, grow⟩ := run_app (P := P) (ty := ty) (w := w) ht ht2 hd2 hi hz (A := none) (n := 0) (c := 0) (olds := []) (news := news) hlen (fun w' hw => by simp [Builtin.firstCells]) hnew (by simpa using hbytes) (by omega)
  have hmax : nr.length ≤ maxLen := by have : maxLen = 9223372036854775807 := by decide
                                       omega
  have e2 := C2.size
  rw [Nat.zero_add] at room grow
  by_cases hr : nr.length ≤ 0
  · have hnr0 : nr = [] := List.eq_nil_of_length_eq_zero (by omega)
    subst hnr0
    refine ⟨_, w, room hr w (by simp), ?_⟩
    have C : Chg φ heap w w nid none := ⟨fun _ _ _ => rfl, Nat.le_refl _, rfl, rfl, rfl, fun pl h => by cases h⟩
    have K := C.keep (blk' := .p e i.size []) H (.inl hb)
    have hR := C.rep (f := fun e => e) H K ⟨h0, .inl ⟨upd_same _ _ _, rfl⟩⟩
    rw [heapTr_id] at hR K
    exact ⟨_, hR, K, .osn nid _ (by rw [lnOf_upd, if_pos rfl]) (upd_same _ _ _), fun k hk => ⟨upd_ne _ _ _ (by omega), by rw [lnOf_upd, if_neg (by omega)]⟩⟩
  · have grow := grow (by omega)
    have hcapge : nr.length ≤ grownCap w nr.length 0 e := grownCap_ge w _ _ _
    have hcaple : grownCap w nr.length 0 e ≤ maxLen := grownCap_le_maxLen w _ _ _ hmax
    refine ⟨_, _, grow, ?_⟩
    refine snd_newP h50 H hb (Pushed.drew w _ e) h0 C2.row hcapge hcaple (by
      simp only [Array.size_append, List.size_toArray, List.length_nil, e2, size_zeroCells, hzs, Nat.zero_add]
      rw [← Nat.add_mul]
      exact Nat.mul_le_mul_right _ (by omega)) fun j f r x hj hf => ?_
    obtain ⟨u, hu, hr⟩ := C2.rep j f r x hj hf
    have hlt := (List.getElem?_eq_some_iff.1 hu).1
    refine ⟨u, ?_, C2.one u (List.mem_of_getElem? hu), hr⟩
    rw [Array.getElem?_append_left (by simp; exact hlt)]
    simpa using hu
theorem snd_mk (h50 : 50 ≤ nid) {t e : TypeId} {i : TypeInfo} {zv : Value} (ht : P.underlying t = some (.slice e)) (hi : P.info? e = some i) (hz : i.zero = some zv) (h0 : 0 < i.size) (hby : 0 < i.bytes) {z : List V} (hk : isKL z zv.cells.toList = true) (hzl : z.length = i.size)
    (H : HRep w0 mine ok0 φ heap w) (hb : heap nid = none) {kl kc : IntKind} {L C : Int} (hl : 0 ≤ L) (hlc : L ≤ C) (hbytes : (i.bytes : Int) * C ≤ 281474976710656) :
    ∃ u w', (Instr.makeSlice t (.int kl L) (.int kc C)).run P w = .ok u w' ∧ Next w0 mine ok0 φ heap w (upd heap nid (some (.p e i.size (List.replicate L.toNat z)))) w' (fun e => e) (.os nid 0 L.toNat) u := by
  obtain ⟨k1, k2, k3⟩ := isKL_get hk
  have hzs : zv.cells.size = i.size := by rw [← hzl, ← k1]; simp
  have hC : C ≤ 281474976710656 := by
    have : 1 * C ≤ (i.bytes : Int) * C := Int.mul_le_mul_of_nonneg_right (by omega) (by omega)
    omega
  have hmax : (9223372036854775807 : Nat) = maxLen := by decide
  refine ⟨_, _, run_make w t e i zv ht hi hz kl kc L C hl hlc hbytes (by omega), ?_⟩
  have := snd_newP h50 (w' := w.alloc (.cells (madeCells zv.cells (C.toNat * i.size)) e)) (l := List.replicate L.toNat z) (sz := i.size) (cap := C.toNat) H hb (Pushed.alloc w _ e) h0 (fun r hr => by rw [List.eq_of_mem_replicate hr]; exact hzl) (by simp; omega) (by omega) (by rw [size_madeCells]; exact Nat.le_refl _) fun j f r x hj hf => by
    have hj' := (List.getElem?_eq_some_iff.1 hj).1
    have hr : r = z := List.eq_of_mem_replicate (List.mem_of_getElem? hj)
    subst hr
    have hf' : f < i.size := by have := (List.getElem?_eq_some_iff.1 hf).1; omega
    have hjC : j < C.toNat := by simp at hj'; omega
    have hm : (j * i.size + f) % i.size = f := by rw [Nat.mul_comm, Nat.mul_add_mod, Nat.mod_eq_of_lt hf']
    refine ⟨_, zeros_get _ _ i.size _ h0 hzs (row_place hjC hf'), ?_⟩
    have hu : zv.cells.toList[f]? = some (zv.cells[(j * i.size + f) % i.size]'(by rw [hzs]; exact Nat.mod_lt _ h0)) := by simp [hm, hzs, hf']
    exact ⟨k2 _ (List.mem_of_getElem? hu), isK_rep x _ (k3 f x _ hf hu)⟩
  simpa using this
theorem snd_al (h50 : 50 ≤ nid) {el : TypeId} {i : TypeInfo} {zv : Value} (hi : P.info? el = some i) (hz : i.zero = some zv) {z : List V} (hk : isKL z zv.cells.toList = true) (h0 : 0 < z.length)
    (H : HRep w0 mine ok0 φ heap w) (hb : heap nid = none) :
    ∃ u w', (Instr.alloc el true undef).run P w = .ok u w' ∧ Next w0 mine ok0 φ heap w (upd heap nid (some (.m el (z.map .v)))) w' (fun e => e) (.op nid 0 0) u := by
  obtain ⟨k1, k2, k3⟩ := isKL_get hk
  refine ⟨.pointer (some ⟨w.heap.size, 0, none⟩), w.alloc (.cells zv.cells el), by simp [Instr.alloc, undef, zeroValue, typeInfo, hi, hz, newVar, newRow], ?_⟩
  refine snd_newM h50 H hb (Pushed.alloc w _ el) (by simpa using h0) ⟨by simp [k1], k2, fun j x u hx hu => ?_⟩
  rw [List.getElem?_map, Option.map_eq_some_iff] at hx
  obtain ⟨y, hy, rfl⟩ := hx
  exact .v _ _ (isK_rep y u (k3 j y u hy hu))
theorem snd_bx (h50 : 50 ≤ nid) {el : TypeId} (H : HRep w0 mine ok0 φ heap w) (hb : heap nid = none) {e : E} {v : Value} {cs : List E} (hv : RepE w (okOf w0 ok0 φ heap w) φ (lnOf heap) e v) (hc : cellsE e = some cs) (h0 : 0 < cs.length) :
    ∃ u w', (Instr.box el v).run P w = .ok u w' ∧ Next w0 mine ok0 φ heap w (upd heap nid (some (.m el cs))) w' (fun e => e) (.op nid 0 0) u :=
  ⟨.pointer (some ⟨w.heap.size, 0, none⟩), w.alloc (.cells v.cells el), by simp [Instr.box, newVar, newRow], snd_newM h50 H hb (Pushed.alloc w _ el) h0 (cellsE_spec hv hc)⟩
theorem snd_nl (h50 : 50 ≤ nid) {e sz : Nat} (h0 : 0 < sz) (H : HRep w0 mine ok0 φ heap w) (hb : heap nid = none) :
    Next w0 mine ok0 φ heap w (upd heap nid (some (.p e sz []))) w (fun e => e) (.os nid 0 0) (.slice none 0 0) := by
  have C : Chg φ heap w w nid none := ⟨fun _ _ _ => rfl, Nat.le_refl _, rfl, rfl, rfl, fun pl h => by cases h⟩
  have K := C.keep (blk' := .p e sz []) H (.inl hb)
  have hR := C.rep (f := fun e => e) H K ⟨h0, .inl ⟨upd_same _ _ _, rfl⟩⟩
  rw [heapTr_id] at hR K
  exact ⟨_, hR, K, .osn nid _ (by rw [lnOf_upd, if_pos rfl]) (upd_same _ _ _), fun k hk => ⟨upd_ne _ _ _ (by omega), by rw [lnOf_upd, if_neg (by omega)]⟩⟩
def cellsV (e : E) : Option (List V) := (cellsE e).bind unV
def evSt (n : Nat) (x v : E) (h : Heap) (K : Heap → Prop) : Prop :=
  match x with
  | .op id j f => match h id with
    | some (.p e sz l) => match cellsV v with
      | some p => p.length = n ∧ (if n = sz then f = 0 ∧ K (upd h id (some (.p e sz (l.set j p)))) else f + n ≤ sz ∧ ∃ r, l[j]? = some r ∧ K (upd h id (some (.p e sz (l.set j (splice r p f))))))
      | none => False
    | some (.m e cs) => match cellsE v with
      | some p => p.length = n ∧ f + n ≤ cs.length ∧ K (upd h id (some (.m e (splice cs p f))))
      | none => False
    | none => False
  | _ => False
theorem run_storeAt {t : TypeId} {i : TypeInfo} (hi : P.info? t = some i) {b o : Nat} {e : TypeId} {cur : Array Value} {v : Value} (hh : w.heap[b]? = some (.cells cur e (0, 0))) (hn : v.cells.size = i.size) (hl : o + v.cells.size ≤ cur.size) (h1 : ∀ u ∈ v.cells.toList, u.oneCell' = true) :
    (Instr.storeAt t (.pointer (some ⟨b, o, none⟩)) v).run P w = .ok () (w.setRow b (splice cur.toList v.cells.toList o).toArray) := by
  have hst := run_storeCells_at P b o e v.cells.toList 0 cur w hh (by simpa using hl) h1
  simp only [Nat.add_zero] at hst
  simp [Instr.storeAt, Instr.sureAddr, storeVar, Go.sizeOf, typeInfo, hi, hn, hst, splice]
theorem snd_st {t : TypeId} {i : TypeInfo} (hi : P.info? t = some i) (H : HRep w0 mine ok0 φ heap w) {x v : E} {xv vv : Value} {K : Heap → Prop}
    (hx : RepE w (okOf w0 ok0 φ heap w) φ (lnOf heap) x xv) (hv : RepE w (okOf w0 ok0 φ heap w) φ (lnOf heap) v vv) (h : evSt i.size x v heap K) :
    ∃ heap' w', (Instr.storeAt t xv vv).run P w = .ok () w' ∧ Next w0 mine ok0 φ heap w heap' w' (fun e => e) (.v (.tu [])) undef ∧ K heap' := by
  unfold evSt at h
  split at h
  · rename_i id j f
    cases hx with | op _ _ _ pl L hl hp hj hf =>
    split at h
    · rename_i e sz l hb
      have hjl : j < l.length := by
        have : l.length = L := by simpa [lnOf, hb, Blk.len] using hl
        omega
      have hrow := List.getElem?_eq_getElem hjl
      split at h
      · rename_i p hc
        obtain ⟨hpn, h⟩ := h
        unfold cellsV at hc
        rw [Option.bind_eq_some_iff] at hc
        obtain ⟨cs, hc1, hc2⟩ := hc
        have hrep := cellsE_spec hv hc1
        rw [unV_spec hc2] at hrep
        have hq := repVs_of hrep
        have hsz : vv.cells.size = p.length := by simpa using hq.1
        obtain ⟨_, g | ⟨_, _, _, _, _, _, g5, _⟩⟩ := H.blk id _ hb
        · rw [g.1] at hp; cases hp
        have hrl := g5 _ (List.getElem_mem hjl)
        split at h
        · rename_i hns
          obtain ⟨rfl, h⟩ := h
          obtain ⟨cur, c1, c2, c3, c4⟩ := snd_setP (f := 0) (p := p) H hb hp hrow hq (by omega)
          have hspl : splice l[j] p 0 = p := by
            apply List.ext_getElem?
            intro k
            rw [splice_get (by omega)]
            by_cases hk : k < p.length
            · rw [if_pos (by omega), Nat.sub_zero]
            · rw [if_neg (by omega), List.getElem?_eq_none (by omega), List.getElem?_eq_none (by omega)]
          rw [hspl] at c4
          refine ⟨_, _, ?_, c4, h⟩
          rw [c3]
          exact run_storeAt hi c1 (by omega) (by simpa using c2) hq.2.1
        · obtain ⟨h1, r0, hr0, h⟩ := h
          rw [hrow] at hr0
          cases hr0
          obtain ⟨cur, c1, c2, c3, c4⟩ := snd_setP (f := f) (p := p) H hb hp hrow hq (by omega)
          refine ⟨_, _, ?_, c4, h⟩
          rw [c3]
          exact run_storeAt hi c1 (by omega) (by simpa using c2) hq.2.1
      · exact h.elim
    · rename_i e cs hb
      have hj0 : j = 0 := by
        have : 1 = L := by simpa [lnOf, hb, Blk.len] using hl
        omega
      subst hj0
      split at h
      · rename_i p hc
        obtain ⟨hpn, h1, h⟩ := h
        have hq := cellsE_spec hv hc
        have hsz : vv.cells.size = p.length := by simpa using hq.1
        obtain ⟨cur, c1, c2, c3, c4⟩ := snd_setM (f := f) (p := p) H hb hp hq (by omega)
        refine ⟨_, _, ?_, c4, h⟩
        rw [c2, Nat.zero_mul, Nat.zero_add, Nat.zero_add]
        exact run_storeAt hi c1 (by omega) (by simpa using c3) hq.2.1
      · exact h.elim
    · exact h.elim
  · exact h.elim
end
end Go.Proofs.YtmjkhbjfacfmcaaGreatDoor.VX
end
section
namespace Go.Proofs.YtmjkhbjfacfmcaaGreatDoor.VX
open Go Go.RowKit
set_option linter.unusedVariables false
set_option linter.unusedSimpArgs false
section
variable {w0 w w' : World} {mine ok0 : Nat → Prop} {φ : Nat → Option Pl} {heap : Heap} {nid : Nat} {P : Program} {ok : Nat → Prop}
def rowsE (sz : Nat) : List E → Option (List (List V))
  | [] => some []
  | e :: l => match cellsV e with
    | some r => if r.length = sz then (rowsE sz l).map (r :: ·) else none
    | none => none
theorem rowsE_spec {sz : Nat} {ln : Nat → Option Nat} : ∀ {es : List E} {rows : List (List V)} {vs : List Value}, rowsE sz es = some rows → vs.length = es.length → (∀ (i : Nat) x u, es[i]? = some x → vs[i]? = some u → RepE w ok φ ln x u) →
    rows.length = es.length ∧ (∀ r ∈ rows, r.length = sz) ∧ (∀ v ∈ vs, v.cells.size = sz) ∧ ∀ (j : Nat) r v, rows[j]? = some r → vs[j]? = some v → RepVs w ok r v.cells.toList
  | [], rows, vs, h, hl, _ => by
    simp [rowsE] at h
    subst h
    have : vs = [] := List.eq_nil_of_length_eq_zero (by simpa using hl)
    subst this
    simp
  | e :: es, rows, [], h, hl, _ => by simp at hl
  | e :: es, rows, v :: vs, h, hl, hr => by
    unfold rowsE at h
    split at h
    · rename_i r hc
      split at h
      · rename_i hs
        rw [Option.map_eq_some_iff] at h
        obtain ⟨rows', h1, rfl⟩ := h
        obtain ⟨g1, g2, g3, g4⟩ := rowsE_spec h1 (by simpa using hl) fun i x u hx hu => hr (i + 1) x u (by simpa using hx) (by simpa using hu)
        have hrep : RepVs w ok r v.cells.toList := by
          unfold cellsV at hc
          rw [Option.bind_eq_some_iff] at hc
          obtain ⟨cs, hc1, hc2⟩ := hc
          have := cellsE_spec (hr 0 e v rfl rfl) hc1
          rw [unV_spec hc2] at this
          exact repVs_of this
        refine ⟨by simp [g1], fun q hq => ?_, fun q hq => ?_, fun j q u hq hu => ?_⟩
        · rcases List.mem_cons.1 hq with rfl | hq
          · exact hs
          · exact g2 q hq
        · rcases List.mem_cons.1 hq with rfl | hq
          · rw [← hs]; simpa using hrep.1
          · exact g3 q hq
        · cases j with
          | zero =>
            obtain rfl : r = q := by simpa using hq
            obtain rfl : v = u := by simpa using hu
            exact hrep
          | succ j => exact g4 j q u (by simpa using hq) (by simpa using hu)
      · cases h
    · cases h
theorem snd_bs (h50 : 50 ≤ nid) {t e : TypeId} {i : TypeInfo} {z : Value} (ht : P.underlying t = some (.slice e)) (hi : P.info? e = some i) (hz : i.zero = some z) (h0 : 0 < i.size) {len : Nat} (hsmall : len * i.size ≤ 16777216)
    (H : HRep w0 mine ok0 φ heap w) (hb : heap nid = none) {es : List E} {vs : List Value} {qs : Array (Nat × Value)} {rows : List (List V)} (hq : qs.toList = (vs.zipIdx 0).map fun x => (x.2, x.1)) (hl : vs.length = es.length) (hlen : es.length = len)
    (hr : ∀ (i : Nat) x u, es[i]? = some x → vs[i]? = some u → RepE w (okOf w0 ok0 φ heap w) φ (lnOf heap) x u) (hrows : rowsE i.size es = some rows) :
    ∃ u w', (Instr.buildSlice t len qs).run P w = .ok u w' ∧ Next w0 mine ok0 φ heap w (upd heap nid (some (.p e i.size rows))) w' (fun e => e) (.os nid 0 len) u := by
  obtain ⟨g1, g2, g3, g4⟩ := rowsE_spec hrows hl hr
  have hrun : ∃ w', (Instr.buildSlice t len qs).run P w = .ok (.slice (some ⟨w.heap.size, 0, none⟩) len len) w' ∧ Pushed w w' (vs.flatMap fun v => v.cells.toList).toArray e := by
    refine ⟨_, ?_, Pushed.alloc w _ e⟩
    by_cases hl0 : len = 0
    · subst hl0
      have hv : vs = [] := List.eq_nil_of_length_eq_zero (by omega)
      subst hv
      have hq0 : qs.toList = [] := by simpa using hq
      simp [Instr.buildSlice, run_underlying ht, Go.sizeOf, typeInfo, hi, hq0, Instr.fill, newRow, Array.range_zero']
    · have hpos : ¬ len * i.size = 0 := by
        have := Nat.mul_pos (show 0 < len by omega) h0
        omega
      refine run_buildSlice w t e len qs _ i z ht hi hz (by omega) hpos ?_
      rw [hq]
      exact Great.fill_whole h0 vs _ g3 (by simp; rw [hl, hlen])
  obtain ⟨w', hrun, hp⟩ := hrun
  refine ⟨_, w', hrun, ?_⟩
  have hmax : (9223372036854775807 : Nat) = maxLen := by decide
  have hle : len * 1 ≤ len * i.size := Nat.mul_le_mul_left _ h0
  have hrl : rows.length = len := by rw [g1, hlen]
  have hflat := Great.flat_get h0 vs g3
  have := snd_newP h50 (l := rows) (cap := len) H hb hp h0 g2 (by omega) (by omega) (by
    have hk := hflat (len * i.size)
    simp only [List.size_toArray]
    clear hk
    have hlen' : ∀ vs : List Value, (∀ v ∈ vs, v.cells.size = i.size) → (vs.flatMap fun v => v.cells.toList).length = vs.length * i.size := by
      intro vs
      induction vs with
      | nil => simp
      | cons v vs ih =>
        intro h
        rw [List.flatMap_cons, List.length_append, ih fun u hu => h u (List.mem_cons_of_mem _ hu), List.length_cons, Nat.add_mul, Nat.one_mul]
        have := h v List.mem_cons_self
        simp [this]
        omega
    rw [hlen' vs g3, hl, hlen]
    exact Nat.le_refl _) fun j f r x hj hf => by
    have hj' := (List.getElem?_eq_some_iff.1 hj).1
    have hr' := g2 r (List.mem_of_getElem? hj)
    have hf' : f < i.size := by have := (List.getElem?_eq_some_iff.1 hf).1; omega
    have hvj : vs[j]? = some (vs[j]'(by omega)) := List.getElem?_eq_getElem _
    have hrep := g4 j r _ hj hvj
    have hcl : f < (vs[j]'(by omega)).cells.size := by rw [g3 _ (List.getElem_mem _)]; exact hf'
    refine ⟨(vs[j]'(by omega)).cells[f], ?_, hrep.2.1 _ (by simp), hrep.2.2 f x _ hf (by simp [hcl])⟩
    rw [List.getElem?_toArray, hflat, Nat.mul_comm j, Nat.mul_add_div h0, Nat.div_eq_of_lt hf', Nat.add_zero, hvj, Nat.mul_add_mod, Nat.mod_eq_of_lt hf']
    simp [hcl]
  rwa [hrl] at this
def Blk.ids (p : Nat → Bool) : Blk → Bool
  | .p _ _ _ => true
  | .m _ cs => idsL p cs
theorem HRep.drop (H : HRep w0 mine ok0 φ heap w) {heap' : Heap} (hh : ∀ k b, heap' k = some b → heap k = some b ∧ b.ids (fun i => (heap' i).isSome) = true) :
    HRep w0 mine ok0 φ heap' w ∧ ∀ e u, e.ids (fun i => (heap' i).isSome) = true → RepE w (okOf w0 ok0 φ heap w) φ (lnOf heap) e u → RepE w (okOf w0 ok0 φ heap' w) φ (lnOf heap') e u := by
  have hs : ∀ k, (heap' k).isSome = true → (heap k).isSome = true := fun k hk => by
    obtain ⟨b, hb⟩ := Option.isSome_iff_exists.1 hk
    rw [(hh k b hb).1]; rfl
  have hok : ∀ b, okOf w0 ok0 φ heap w b → okOf w0 ok0 φ heap' w b ∧ w.heap[b]? = w.heap[b]? := fun b ⟨h1, h2, h3⟩ => ⟨⟨h1, h2, fun id pl hi hp => h3 id pl (hs id hi) hp⟩, rfl⟩
  have hln : ∀ id L, (heap' id).isSome = true → lnOf heap id = some L → lnOf heap' id = some L ∧ φ id = φ id := fun id L hi hl => by
    obtain ⟨b, hb⟩ := Option.isSome_iff_exists.1 hi
    refine ⟨?_, rfl⟩
    rw [← hl]
    simp [lnOf, hb, (hh id b hb).1]
  have hE : ∀ e u, e.ids (fun i => (heap' i).isSome) = true → RepE w (okOf w0 ok0 φ heap w) φ (lnOf heap) e u → RepE w (okOf w0 ok0 φ heap' w) φ (lnOf heap') e u := fun e u he h =>
    h.mono _ hok (fun id L hp hl => hln id L hp hl) he
  refine ⟨⟨fun id b hb => ?_, fun id id' pl pl' h1 h2 => H.inj id id' pl pl' (hs id h1) (hs id' h2), fun id pl h1 => H.own id pl (hs id h1), H.old, H.os, H.tape, H.output, H.size, H.ok0⟩, hE⟩
  obtain ⟨h1, h2⟩ := hh id b hb
  have h0 := H.blk id b h1
  cases b with
  | p e sz l =>
    obtain ⟨g0, g1⟩ := h0
    refine ⟨g0, ?_⟩
    rcases g1 with g1 | ⟨pl, cur, g1, g2, g3, g4, g5, g6, g7, g8⟩
    · exact .inl g1
    · refine .inr ⟨pl, cur, g1, g2, g3, g4, g5, g6, g7, fun j f r x hj hf => ?_⟩
      obtain ⟨u, hu, h9, h10⟩ := g8 j f r x hj hf
      exact ⟨u, hu, h9, h10.mono hok⟩
  | m e cs =>
    obtain ⟨pl, cur, g1, g2, g3, g4, g5, g6, g7⟩ := h0
    refine ⟨pl, cur, g1, g2, g3, g4, g5, g6, fun f x hf => ?_⟩
    obtain ⟨u, hu, h9, h10⟩ := g7 f x hf
    exact ⟨u, hu, h9, hE _ _ (idsL_get h2 f x hf) h10⟩
def mkE : List Nat → Env → Env
  | [], _ => fun _ => .dead
  | t :: ts, g => upd (mkE ts g) t (g t)
def mkH : List Nat → Heap → Heap
  | [], _ => fun _ => none
  | k :: ks, h => upd (mkH ks h) k (h k)
def okH (ids : List Nat) (h : Heap) : List Nat → Prop
  | [] => True
  | k :: ks => (match h k with | some b => b.ids (fun i => ids.contains i) = true | none => True) ∧ okH ids h ks
def okE (ids : List Nat) (g : Env) : List Nat → Prop
  | [] => True
  | t :: ts => (g t).ids (fun i => ids.contains i) = true ∧ okE ids g ts
theorem mkH_some : ∀ (ks : List Nat) (h : Heap) (k : Nat) (b : Blk), mkH ks h k = some b → h k = some b ∧ k ∈ ks
  | [], h, k, b, hb => by simp [mkH] at hb
  | q :: ks, h, k, b, hb => by
    unfold mkH at hb
    by_cases hk : k = q
    · subst hk
      rw [upd_same] at hb
      exact ⟨hb, List.mem_cons_self⟩
    · rw [upd_ne _ _ _ hk] at hb
      obtain ⟨h1, h2⟩ := mkH_some ks h k b hb
      exact ⟨h1, List.mem_cons_of_mem _ h2⟩
theorem mkH_mem {ids : List Nat} {h : Heap} : ∀ {ks : List Nat}, okH ids h ks → ∀ k ∈ ks, mkH ks h k = h k ∧ ∀ b, h k = some b → b.ids (fun i => ids.contains i) = true
  | [], _, k, hk => by cases hk
  | q :: ks, ho, k, hk => by
    obtain ⟨h1, h2⟩ := ho
    unfold mkH
    by_cases hq : k = q
    · subst hq
      rw [upd_same]
      refine ⟨rfl, fun b hb => ?_⟩
      rw [hb] at h1
      exact h1
    · rw [upd_ne _ _ _ hq]
      exact mkH_mem h2 k ((List.mem_cons.1 hk).resolve_left hq)
mutual
theorem E.ids_imp {p q : Nat → Bool} (h : ∀ i, p i = true → q i = true) : ∀ e : E, e.ids p = true → e.ids q = true
  | .v _, _ => rfl
  | .dead, _ => rfl
  | .os i _ _, hp => h i hp
  | .op i _ _, hp => h i hp
  | .ag cs, hp => idsL_imp h cs hp
  | .tu cs, hp => idsL_imp h cs hp
  | .cl _ a b, hp => by
    rw [E.ids, Bool.and_eq_true] at hp ⊢
    exact ⟨idsL_imp h a hp.1, idsL_imp h b hp.2⟩
theorem idsL_imp {p q : Nat → Bool} (h : ∀ i, p i = true → q i = true) : ∀ l : List E, idsL p l = true → idsL q l = true
  | [], _ => rfl
  | x :: l, hp => by
    rw [idsL, Bool.and_eq_true] at hp ⊢
    exact ⟨E.ids_imp h x hp.1, idsL_imp h l hp.2⟩
end
theorem Blk.ids_imp {p q : Nat → Bool} (h : ∀ i, p i = true → q i = true) (b : Blk) (hb : b.ids p = true) : b.ids q = true := by
  cases b with
  | p => rfl
  | m e cs => exact idsL_imp h cs hb
theorem mkE_get (g : Env) : ∀ (ts : List Nat) (t : Nat), mkE ts g t = .dead ∨ (mkE ts g t = g t ∧ t ∈ ts)
  | [], t => .inl rfl
  | q :: ts, t => by
    unfold mkE
    by_cases hk : t = q
    · subst hk; exact .inr ⟨upd_same _ _ _, List.mem_cons_self⟩
    · rw [upd_ne _ _ _ hk]
      exact (mkE_get g ts t).imp id fun ⟨a, b⟩ => ⟨a, List.mem_cons_of_mem _ b⟩
theorem okE_get {ids : List Nat} {g : Env} : ∀ {ts : List Nat}, okE ids g ts → ∀ t ∈ ts, (g t).ids (fun i => ids.contains i) = true
  | [], _, t, ht => by cases ht
  | q :: ts, ho, t, ht => by
    rcases List.mem_cons.1 ht with rfl | ht
    · exact ho.1
    · exact okE_get ho.2 t ht
theorem HRep.keep (H : HRep w0 mine ok0 φ heap w) {ids : List Nat} (h : okH ids heap ids) :
    HRep w0 mine ok0 φ (mkH ids heap) w ∧ ∀ e u, e.ids (fun i => ids.contains i) = true → RepE w (okOf w0 ok0 φ heap w) φ (lnOf heap) e u → RepE w (okOf w0 ok0 φ (mkH ids heap) w) φ (lnOf (mkH ids heap)) e u := by
  have hs : ∀ k, (mkH ids heap k).isSome = true → (heap k).isSome = true := fun k hk => by
    obtain ⟨b, hb⟩ := Option.isSome_iff_exists.1 hk
    rw [(mkH_some ids heap k b hb).1]; rfl
  have hok : ∀ b, okOf w0 ok0 φ heap w b → okOf w0 ok0 φ (mkH ids heap) w b ∧ w.heap[b]? = w.heap[b]? := fun b ⟨h1, h2, h3⟩ => ⟨⟨h1, h2, fun id pl hi hp => h3 id pl (hs id hi) hp⟩, rfl⟩
  have hE : ∀ e u, e.ids (fun i => ids.contains i) = true → RepE w (okOf w0 ok0 φ heap w) φ (lnOf heap) e u → RepE w (okOf w0 ok0 φ (mkH ids heap) w) φ (lnOf (mkH ids heap)) e u := fun e u he hr =>
    hr.mono _ hok (fun id L hp hl => ⟨by
      have hm := (mkH_mem h id (by simpa using hp)).1
      simpa [lnOf, hm] using hl, rfl⟩) he
  refine ⟨⟨fun id b hb => ?_, fun id id' pl pl' h1 h2 => H.inj id id' pl pl' (hs id h1) (hs id' h2), fun id pl h1 => H.own id pl (hs id h1), H.old, H.os, H.tape, H.output, H.size, H.ok0⟩, hE⟩
  obtain ⟨h1, h2⟩ := mkH_some ids heap id b hb
  have hids := (mkH_mem h id h2).2 b h1
  have h0 := H.blk id b h1
  cases b with
  | p e sz l =>
    obtain ⟨g0, g1⟩ := h0
    refine ⟨g0, ?_⟩
    rcases g1 with g1 | ⟨pl, cur, g1, g2, g3, g4, g5, g6, g7, g8⟩
    · exact .inl g1
    · refine .inr ⟨pl, cur, g1, g2, g3, g4, g5, g6, g7, fun j f r x hj hf => ?_⟩
      obtain ⟨u, hu, h9, h10⟩ := g8 j f r x hj hf
      exact ⟨u, hu, h9, h10.mono hok⟩
  | m e cs =>
    obtain ⟨pl, cur, g1, g2, g3, g4, g5, g6, g7⟩ := h0
    refine ⟨pl, cur, g1, g2, g3, g4, g5, g6, fun f x hf => ?_⟩
    obtain ⟨u, hu, h9, h10⟩ := g7 f x hf
    exact ⟨u, hu, h9, hE _ _ (idsL_get hids f x hf) h10⟩
end
end Go.Proofs.YtmjkhbjfacfmcaaGreatDoor.VX
end
section
namespace Go.Proofs.YtmjkhbjfacfmcaaGreatDoor.VX
open Go Go.RowKit
set_option linter.unusedVariables false
set_option linter.unusedSimpArgs false
def mkTu (cs : List E) : E := match unV cs with | some vs => .v (.tu vs) | none => .tu cs
def mkCl (fn : Fn) (a b : List E) : E := match unV a, unV b with
  | some x, some y => .v (.cl fn x y)
  | _, _ => .cl fn a b
mutual
def E.frz (id sz : Nat) (l : List (List V)) : E → E
  | .v x => .v x
  | .os i lo n => if i = id then .v (.sl sz ((l.drop lo).take n)) else .os i lo n
  | .op i j f => if i = id then (match l[j]? with | some r => .v (.pt (r.drop f)) | none => .dead) else .op i j f
  | .ag cs => mkAg (frzL id sz l cs)
  | .tu cs => mkTu (frzL id sz l cs)
  | .cl fn a b => mkCl fn (frzL id sz l a) (frzL id sz l b)
  | .dead => .dead
def frzL (id sz : Nat) (l : List (List V)) : List E → List E
  | [] => []
  | x :: r => x.frz id sz l :: frzL id sz l r
end
theorem frzL_map (id sz : Nat) (l : List (List V)) : ∀ cs : List E, frzL id sz l cs = cs.map (E.frz id sz l)
  | [] => rfl
  | x :: r => by rw [frzL, frzL_map id sz l r]; rfl
def del (id : Nat) (h : Heap) (k : Nat) : Option Blk := if k = id then none else h k
section
variable {w0 w w' : World} {mine ok0 : Nat → Prop} {φ : Nat → Option Pl} {heap : Heap} {nid : Nat} {P : Program} {ok : Nat → Prop} {ln : Nat → Option Nat}
theorem rep_mkCl {fn : Fn} {a b : List E} {u : Value} (h : RepE w ok φ ln (.cl fn a b) u) : RepE w ok φ ln (mkCl fn a b) u := by
  unfold mkCl
  split
  · rename_i x y hx hy
    obtain rfl := unV_spec hx
    obtain rfl := unV_spec hy
    cases h with | cl _ _ _ us vs h0 h1 h k =>
    refine .v _ _ (.cl fn x y us vs (by simpa using h0) (by simpa using h1) (fun i z v hz hv => ?_) fun i z v hz hv => ?_)
    · have := h i (.v z) v (by rw [List.getElem?_map, hz]; rfl) hv
      cases this with | v _ _ h => exact h
    · have := k i (.v z) v (by rw [List.getElem?_map, hz]; rfl) hv
      cases this with | v _ _ h => exact h
  · exact h
theorem rep_mkTu {cs : List E} {u : Value} (h : RepE w ok φ ln (.tu cs) u) : RepE w ok φ ln (mkTu cs) u := by
  unfold mkTu
  cases hv : unV cs with
  | none => exact h
  | some vs =>
    cases h with | tu _ us h0 h =>
    have hcs := unV_spec hv
    subst hcs
    refine .v _ _ (.tu vs us (by simpa using h0) fun i x u hx hu => ?_)
    have := h i (.v x) u (by simp [hx]) hu
    cases this with | v _ _ h => exact h
def rowsB : Blk → Option (Nat × List (List V))
  | .p _ sz l => some (sz, l)
  | .m _ cs => match unV cs with | some vs => some (vs.length, [vs]) | none => none
theorem rowsB_spec {id sz : Nat} {b : Blk} {l : List (List V)} (h : RepB w ok φ ln id b) (hr : rowsB b = some (sz, l)) : b.len = l.length ∧
    (φ id = none ∧ l = [] ∨ ∃ pl, φ id = some pl ∧ pl.sz = sz ∧ l.length ≤ pl.cap ∧ pl.cap ≤ maxLen ∧ (∀ r ∈ l, r.length = sz) ∧
      ∀ (j f : Nat) r x, l[j]? = some r → r[f]? = some x → ∃ u, w.cell? ⟨pl.b, pl.off + (j * sz + f), none⟩ = some u ∧ u.oneCell' = true ∧ RepV w ok x u) := by
  cases b with
  | p e sz' l' =>
    cases hr
    obtain ⟨h0, h1⟩ := h
    refine ⟨rfl, ?_⟩
    rcases h1 with h1 | ⟨pl, cur, g1, g2, g3, g4, g5, g6, g7, g8⟩
    · exact .inl h1
    · refine .inr ⟨pl, g1, g2, g3, g4, g5, fun j f r x hj hf => ?_⟩
      obtain ⟨u, hu, h9, h10⟩ := g8 j f r x hj hf
      exact ⟨u, by rw [cell_of_row w pl.b _ cur e (0, 0) g6]; exact hu, h9, h10⟩
  | m e cs =>
    simp only [rowsB] at hr
    split at hr
    · rename_i vs hvs
      cases hr
      have hcs := unV_spec hvs
      subst hcs
      obtain ⟨pl, cur, g1, g2, g3, g4, g5, g6, g7⟩ := h
      refine ⟨rfl, .inr ⟨pl, g1, by simpa using g3, by simp [g4], by rw [g4]; decide, by simp, fun j f r x hj hf => ?_⟩⟩
      have hj0 : j = 0 := by have := (List.getElem?_eq_some_iff.1 hj).1; simp at this; omega
      subst hj0
      obtain rfl : vs = r := by simpa using hj
      obtain ⟨u, hu, h9, h10⟩ := g7 f (.v x) (by simp [hf])
      cases h10 with | v _ _ h10 =>
      exact ⟨u, by rw [cell_of_row w pl.b _ cur e (0, 0) g5, g2]; simpa using hu, h9, h10⟩
    · cases hr
theorem HRep.frz (H : HRep w0 mine ok0 φ heap w) {id sz : Nat} {b : Blk} {l : List (List V)} (h100 : 100 ≤ id) (hb : heap id = some b) (hr : rowsB b = some (sz, l)) :
    HRep w0 mine ok0 φ (del id (heapTr (E.frz id sz l) heap)) w ∧ ∀ e u, RepE w (okOf w0 ok0 φ heap w) φ (lnOf heap) e u → RepE w (okOf w0 ok0 φ (del id (heapTr (E.frz id sz l) heap)) w) φ (lnOf (del id (heapTr (E.frz id sz l) heap))) (e.frz id sz l) u := by
  have hs : ∀ k, (del id (heapTr (E.frz id sz l) heap) k).isSome = true → k ≠ id ∧ (heap k).isSome = true := fun k hk => by
    unfold del at hk
    split at hk
    · cases hk
    · rename_i hne
      rw [heapTr_isSome] at hk
      exact ⟨hne, hk⟩
  have hok : ∀ k, okOf w0 ok0 φ heap w k → okOf w0 ok0 φ (del id (heapTr (E.frz id sz l) heap)) w k ∧ w.heap[k]? = w.heap[k]? := fun k ⟨h1, h2, h3⟩ =>
    ⟨⟨h1, h2, fun i pl hi hp => h3 i pl (hs i hi).2 hp⟩, rfl⟩
  obtain ⟨hlen, hrows⟩ := rowsB_spec (H.blk id b hb) hr
  have hokb : ∀ pl, φ id = some pl → okOf w0 ok0 φ (del id (heapTr (E.frz id sz l) heap)) w pl.b := fun pl hp => by
    obtain ⟨h1, h2⟩ := H.own id pl (by rw [hb]; rfl) hp
    refine ⟨.inr (h2.resolve_right fun h => by omega), h1, fun i q hi hq he => (hs i hi).1 (H.inj i id q pl (hs i hi).2 (by rw [hb]; rfl) hq hp he)⟩
  have hln : ∀ k, k ≠ id → lnOf (del id (heapTr (E.frz id sz l) heap)) k = lnOf heap k := fun k hk => by
    unfold lnOf del
    rw [if_neg hk]
    exact congrFun (lnOf_tr _ heap) k
  have hL : ∀ L, lnOf heap id = some L → L = l.length := fun L h => by
    simp only [lnOf, hb, Option.map_some, Option.some.injEq] at h
    omega
  have hE : ∀ e u, RepE w (okOf w0 ok0 φ heap w) φ (lnOf heap) e u → RepE w (okOf w0 ok0 φ (del id (heapTr (E.frz id sz l) heap)) w) φ (lnOf (del id (heapTr (E.frz id sz l) heap))) (e.frz id sz l) u := by
    intro e u h
    induction h with
    | v x u h => exact .v x u (h.mono hok)
    | dead u => exact .dead u
    | osn k L hl hp =>
      unfold E.frz
      by_cases hk : k = id
      · subst hk
        rw [if_pos rfl]
        simpa using RepE.v (w := w) (ok := okOf w0 ok0 φ (del k (heapTr (E.frz k sz l) heap)) w) (φ := φ) (ln := lnOf (del k (heapTr (E.frz k sz l) heap))) _ _ (.sn sz)
      · rw [if_neg hk]
        exact .osn k L (by rw [hln k hk]; exact hl) hp
    | os k lo n a c pl L hl hp h1 h2 h3 ha =>
      unfold E.frz
      by_cases hk : k = id
      · subst hk
        rw [if_pos rfl]
        have hLl := hL L hl
        rcases hrows with ⟨g1, _⟩ | ⟨pl', g1, g2, g3, g4, g5, g6⟩
        · rw [hp] at g1; cases g1
        obtain rfl : pl = pl' := by rw [hp] at g1; exact Option.some.inj g1
        have hget : ∀ (j : Nat) r, ((l.drop lo).take n)[j]? = some r → j < n ∧ l[lo + j]? = some r := fun j r hj => by
          rw [List.getElem?_take] at hj
          split at hj
          · rename_i hlt; exact ⟨hlt, by rwa [List.getElem?_drop] at hj⟩
          · cases hj
        have hac : 0 < n → a = ⟨pl.b, pl.off + lo * sz, none⟩ := fun h => by rw [ha (by omega), g2]
        have hcells : ∀ (j f : Nat) r x, ((l.drop lo).take n)[j]? = some r → r[f]? = some x → ∃ u, w.cell? (a.add (j * sz + f)) = some u ∧ u.oneCell' = true ∧ RepV w (okOf w0 ok0 φ heap w) x u := fun j f r x hj hf => by
          obtain ⟨q1, q2⟩ := hget j r hj
          obtain ⟨u, hu, ho, hv⟩ := g6 _ f r x q2 hf
          refine ⟨u, ?_, ho, hv⟩
          rw [hac (by omega), add_at, ← hu]
          congr 2
          rw [Nat.add_mul]
          omega
        refine .v _ _ (.sl sz _ a n c (by simp; omega) h2 (by omega) (fun r hr => g5 r (List.mem_of_mem_drop (List.mem_of_mem_take hr))) (fun h => by rw [hac h]; exact hokb pl hp)
          (fun j f => (w.cell? (a.add (j * sz + f))).getD undef) (fun j f r x hj hf => ?_) fun j f r x hj hf => ?_)
        · obtain ⟨u, hu, ho, _⟩ := hcells j f r x hj hf
          rw [hu]
          exact ⟨rfl, ho⟩
        · obtain ⟨u, hu, _, hv⟩ := hcells j f r x hj hf
          rw [hu]
          exact hv.mono hok
      · rw [if_neg hk]
        exact .os k lo n a c pl L (by rw [hln k hk]; exact hl) hp h1 h2 h3 ha
    | op k j f pl L hl hp hj hf =>
      unfold E.frz
      by_cases hk : k = id
      · subst hk
        rw [if_pos rfl]
        have hLl := hL L hl
        rcases hrows with ⟨g1, _⟩ | ⟨pl', g1, g2, g3, g4, g5, g6⟩
        · rw [hp] at g1; cases g1
        obtain rfl : pl = pl' := by rw [hp] at g1; exact Option.some.inj g1
        have hrow : l[j]? = some l[j] := List.getElem?_eq_getElem (by omega)
        rw [hrow]
        have hcells : ∀ (m : Nat) x, (l[j].drop f)[m]? = some x → ∃ u, w.cell? ((⟨pl.b, pl.off + (j * pl.sz + f), none⟩ : Addr).add m) = some u ∧ u.oneCell' = true ∧ RepV w (okOf w0 ok0 φ heap w) x u := fun m x hx => by
          rw [List.getElem?_drop] at hx
          obtain ⟨u, hu, ho, hv⟩ := g6 j _ _ x hrow hx
          refine ⟨u, ?_, ho, hv⟩
          rw [add_at, ← hu, g2]
          congr 2
          omega
        refine .v _ _ (.pt _ _ (hokb pl hp) (fun m => (w.cell? ((⟨pl.b, pl.off + (j * pl.sz + f), none⟩ : Addr).add m)).getD undef) (fun m x hx => ?_) fun m x hx => ?_)
        · obtain ⟨u, hu, ho, _⟩ := hcells m x hx
          rw [hu]
          exact ⟨rfl, ho⟩
        · obtain ⟨u, hu, _, hv⟩ := hcells m x hx
          rw [hu]
          exact hv.mono hok
      · rw [if_neg hk]
        exact .op k j f pl L (by rw [hln k hk]; exact hl) hp hj hf
    | ag cs us h0 h1 _ ih =>
      unfold E.frz
      rw [frzL_map]
      refine rep_mkAg (.ag _ us (by simpa using h0) h1 fun i x u hx hu => ?_)
      rw [List.getElem?_map, Option.map_eq_some_iff] at hx
      obtain ⟨y, hy, rfl⟩ := hx
      exact ih i y u hy hu
    | tu cs us h0 _ ih =>
      unfold E.frz
      rw [frzL_map]
      refine rep_mkTu (.tu _ us (by simpa using h0) fun i x u hx hu => ?_)
      rw [List.getElem?_map, Option.map_eq_some_iff] at hx
      obtain ⟨y, hy, rfl⟩ := hx
      exact ih i y u hy hu
    | cl fn a b us vs h0 h1 _ _ ih ik =>
      unfold E.frz
      rw [frzL_map, frzL_map]
      refine rep_mkCl (.cl fn _ _ us vs (by simpa using h0) (by simpa using h1) (fun i x u hx hu => ?_) fun i x u hx hu => ?_)
      · rw [List.getElem?_map, Option.map_eq_some_iff] at hx
        obtain ⟨y, hy, rfl⟩ := hx
        exact ih i y u hy hu
      · rw [List.getElem?_map, Option.map_eq_some_iff] at hx
        obtain ⟨y, hy, rfl⟩ := hx
        exact ik i y u hy hu
  refine ⟨⟨fun k b' hb' => ?_, fun k k' pl pl' h1 h2 => H.inj k k' pl pl' (hs k h1).2 (hs k' h2).2, fun k pl h1 => H.own k pl (hs k h1).2, H.old, H.os, H.tape, H.output, H.size, H.ok0⟩, hE⟩
  have hk : k ≠ id := (hs k (by rw [hb']; rfl)).1
  unfold del at hb'
  rw [if_neg hk] at hb'
  unfold heapTr at hb'
  rw [Option.map_eq_some_iff] at hb'
  obtain ⟨b0, hb0, rfl⟩ := hb'
  have h0 := H.blk k b0 hb0
  cases b0 with
  | p e sz l =>
    obtain ⟨g0, g1⟩ := h0
    refine ⟨g0, ?_⟩
    rcases g1 with g1 | ⟨pl, cur, g1, g2, g3, g4, g5, g6, g7, g8⟩
    · exact .inl g1
    · refine .inr ⟨pl, cur, g1, g2, g3, g4, g5, g6, g7, fun j f r x hj hf => ?_⟩
      obtain ⟨u, hu, h9, h10⟩ := g8 j f r x hj hf
      exact ⟨u, hu, h9, h10.mono hok⟩
  | m e cs =>
    obtain ⟨pl, cur, g1, g2, g3, g4, g5, g6, g7⟩ := h0
    refine ⟨pl, cur, g1, g2, by simpa using g3, g4, g5, by simpa using g6, fun f x hf => ?_⟩
    rw [List.getElem?_map, Option.map_eq_some_iff] at hf
    obtain ⟨y, hy, rfl⟩ := hf
    obtain ⟨u, hu, h9, h10⟩ := g7 f y hy
    exact ⟨u, hu, h9, hE _ _ h10⟩
end
end Go.Proofs.YtmjkhbjfacfmcaaGreatDoor.VX
end
section
namespace Go.Proofs.YtmjkhbjfacfmcaaGreatDoor.VX
open Go Go.RowKit
set_option linter.unusedVariables false
set_option linter.unusedSimpArgs false
structure Ctx where
  P : Program
  G : World → Prop
  ng : Nat
  hG : ∀ w w', (∀ b, b < ng → w'.heap[b]? = w.heap[b]?) → G w → G w'
  hm : P.follows .mixedOrders = true
def Mine (H0 : Heap) (φ : Nat → Option Pl) (b : Nat) : Prop := ∃ id pl, (H0 id).isSome = true ∧ φ id = some pl ∧ pl.b = b
def noH : Heap := fun _ => none
def RepAs (w : World) (ok : Nat → Prop) (φ : Nat → Option Pl) (ln : Nat → Option Nat) (es : List E) (vs : List Value) : Prop :=
  vs.length = es.length ∧ ∀ (i : Nat) x u, es[i]? = some x → vs[i]? = some u → RepE w ok φ ln x u
def Ctr (X : Ctx) (f : Nat) (H0 : Heap) (args : List E) (Q : Heap → E → Prop) : Prop :=
  ∀ (w : World) (ok0 : Nat → Prop) (φ : Nat → Option Pl) (vals : List Value), X.G w → X.ng ≤ w.heap.size → HRep w (Mine H0 φ) ok0 φ H0 w → (∀ b, Mine H0 φ b → X.ng ≤ b) →
    (∀ id, (H0 id).isSome = true → id < 100) → RepAs w (okOf w ok0 φ H0 w) φ (lnOf H0) args vals →
    Calls X.P f vals.toArray w fun e w' => ∃ v H1 r φ', e = .returned v ∧ Q H1 r ∧ HRep w (Mine H0 φ) ok0 φ' H1 w' ∧ RepE w' (okOf w ok0 φ' H1 w') φ' (lnOf H1) r v ∧
      ∀ k, k < 50 → (H1 k).isSome = true → φ' k = φ k ∧ lnOf H1 k = lnOf H0 k
def Fn (X : Ctx) (f : Nat) (args : List V) (r : V) : Prop := Ctr X f noH (args.map .v) fun H e => H = noH ∧ e = .v r
structure Run (X : Ctx) where
  w0 : World
  mine : Nat → Prop
  ok0 : Nat → Prop
  φ0 : Nat → Option Pl
  ln0 : Nat → Option Nat
  N : Nat
  g : X.G w0
  ng : X.ng ≤ w0.heap.size
  mg : ∀ b, mine b → X.ng ≤ b
structure At {X : Ctx} (R : Run X) (φ : Nat → Option Pl) (S : St) (tm : Array Value) (w : World) : Prop where
  h : HRep R.w0 R.mine R.ok0 φ S.heap w
  env : ∀ t, RepE w (okOf R.w0 R.ok0 φ S.heap w) φ (lnOf S.heap) (S.env t) (tm.getD t undef)
  size : tm.size = R.N
  pin : ∀ k, k < 50 → (S.heap k).isSome = true → φ k = R.φ0 k ∧ lnOf S.heap k = R.ln0 k
def RepS {X : Ctx} (R : Run X) (S : St) (a : Act) (w : World) : Prop := (∃ φ, At R φ S a.tmps w) ∧ a.defers = []
section
variable {X : Ctx} {R : Run X} {φ : Nat → Option Pl} {S : St} {tm : Array Value} {w : World} {a : Act}
theorem At.gw (A : At R φ S tm w) : X.G w ∧ X.ng ≤ w.heap.size := by
  refine ⟨X.hG R.w0 w (fun b hb => A.h.old b (Nat.lt_of_lt_of_le hb R.ng) fun hm => ?_) R.g, Nat.le_trans R.ng A.h.size⟩
  have := R.mg b hm
  omega
theorem At.next (A : At R φ S tm w) {heap' : Heap} {w' : World} {f : E → E} {r : E} {u : Value} (n : Next R.w0 R.mine R.ok0 φ S.heap w heap' w' f r u) :
    ∃ φ', At R φ' ⟨envTr f S.env, heap'⟩ tm w' ∧ RepE w' (okOf R.w0 R.ok0 φ' heap' w') φ' (lnOf heap') r u := by
  obtain ⟨φ', h1, h2, h3, h4⟩ := n
  refine ⟨φ', ⟨h1, fun t => h2 _ _ (A.env t), A.size, fun k hk hs => ?_⟩, h3⟩
  obtain ⟨g1, g2⟩ := h4 k hk
  have hs' : (S.heap k).isSome = true := by
    simp only [lnOf] at g2
    cases hh : S.heap k with
    | none => rw [hh] at g2; simp at g2; simp [g2] at hs
    | some b => rfl
  obtain ⟨p1, p2⟩ := A.pin k hk hs'
  exact ⟨g1.trans p1, g2.trans p2⟩
theorem At.put (A : At R φ S tm w) {d : Option Nat} (hd : ∀ t, d = some t → t < R.N) {r : E} {u : Value} (h : RepE w (okOf R.w0 R.ok0 φ S.heap w) φ (lnOf S.heap) r u) (df : List Deferred) :
    At R φ (S.put d r) ((⟨tm, df⟩ : Act).put d u).tmps w := by
  obtain ⟨h1, h2, h3, h4⟩ := tmps_set (a := ⟨tm, df⟩) A.env A.size d hd h S rfl
  exact ⟨by rw [h4]; exact A.h, by rw [h4]; exact h1, h2, by rw [h4]; exact A.pin⟩
end
def evCall (X : Ctx) (f : Nat) (es : List E) (S : St) (K : E → St → Prop) : Prop :=
  ∀ (R : Run X) (φ : Nat → Option Pl) (tm : Array Value) (w : World) (vals : List Value), At R φ S tm w → RepAs w (okOf R.w0 R.ok0 φ S.heap w) φ (lnOf S.heap) es vals →
    Calls X.P f vals.toArray w fun e w' => ∃ v r S' φ', e = .returned v ∧ K r S' ∧ At R φ' S' tm w' ∧ RepE w' (okOf R.w0 R.ok0 φ' S'.heap w') φ' (lnOf S'.heap) r v
def evCallp (X : Ctx) (f : Nat) (es : List E) (K : E → Prop) : Prop := ∃ xs r, es = xs.map .v ∧ Fn X f xs r ∧ K (.v r)
mutual
                                     
def V.flat : V → Bool
  | .sc _ => true
  | .st cs => flatL cs
  | .tu cs => flatL cs
  | .sl _ l => l.isEmpty
  | .pt _ => false
  | .cl _ _ _ => false
  | .ni => true
def flatL : List V → Bool
  | [] => true
  | x :: l => x.flat && flatL l
end
def purE (h : Heap) : E → Option V
  | .v x => some x
  | .os id lo n => match h id with
    | some (.p _ sz l) => some (.sl sz ((l.drop lo).take n))
    | _ => none
  | _ => none
def purL (h : Heap) : List E → Option (List V)
  | [] => some []
  | e :: l => match purE h e, purL h l with
    | some x, some xs => some (x :: xs)
    | _, _ => none
def evCallb (X : Ctx) (f : Nat) (es : List E) (h : Heap) (K : E → Prop) : Prop := ∃ xs r, purL h es = some xs ∧ Fn X f xs r ∧ r.flat = true ∧ K (.v r)
def FnO (X : Ctx) (f e sz : Nat) (args : List V) (rows : List (List V)) : Prop := Ctr X f noH (args.map .v) fun H r => H = upd noH 100 (some (.p e sz rows)) ∧ r = .os 100 0 rows.length
def evFrz : List Nat → St → (St → Prop) → Prop
  | [], S, K => K S
  | id :: l, S, K => match S.heap id with
    | some b => match rowsB b with
      | some (sz, rows) => 100 ≤ id ∧ evFrz l ⟨envTr (E.frz id sz rows) S.env, del id (heapTr (E.frz id sz rows) S.heap)⟩ K
      | none => False
    | none => evFrz l S K
inductive G0 where
  | mf (f n : Nat)
  | peq (neg : Bool)
  | ieq (neg : Bool)
  deriving Inhabited
inductive G1 where
  | b2s
  | usd
  deriving Inhabited
inductive G5 where
  | cx
  | ust (e : Nat)
  | alo (nid e : Nat) (z : List V) (subs : List (Nat × Nat × Nat × Nat))
  deriving Inhabited
def evPeq (neg : Bool) (x y : E) (K : E → Prop) : Prop :=
  match x, y with
  | .op i j f, .op i' j' f' => i = i' ∧ j = j' ∧ f = f' ∧ K (.v (.sc (.bool (!neg))))
  | .op _ _ _, .v (.sc (.pointer none)) => K (.v (.sc (.bool neg)))
  | .v (.pt _), .v (.sc (.pointer none)) => K (.v (.sc (.bool neg)))
  | .v (.sc (.pointer none)), .v (.sc (.pointer none)) => K (.v (.sc (.bool (!neg))))
  | _, _ => False
def evIeq (neg : Bool) (x y : E) (K : E → Prop) : Prop :=
  match x, y with
  | .v .ni, .v (.sc .nilIface) => K (.v (.sc (.bool neg)))
  | .v (.sc .nilIface), .v (.sc .nilIface) => K (.v (.sc (.bool (!neg))))
  | _, _ => False
def evG0 : G0 → List E → (E → Prop) → Prop
  | .mf f n, es, K => K (mkCl (.func f) (es.take n) (es.drop n))
  | .peq neg, es, K => match es with | [x, y] => evPeq neg x y K | _ => False
  | .ieq neg, es, K => match es with | [x, y] => evIeq neg x y K | _ => False
def evB2s (x : E) (h : Heap) (K : E → Prop) : Prop := match contE h x with
  | some (sz, rows) => sz = 1 ∧ ∃ s, rows = bytesV s ∧ K (.v (.sc (.string s)))
  | none => False
def evUsd (x : E) (h : Heap) (K : E → Prop) : Prop := match x with
  | .os id lo n => match h id with
    | some (.p _ _ _) => 0 < n ∧ K (.op id lo 0)
    | _ => False
  | _ => False
def evG1 : G1 → List E → Heap → (E → Prop) → Prop
  | .b2s, es, h, K => match es with | [x] => evB2s x h K | _ => False
  | .usd, es, h, K => match es with | [x] => evUsd x h K | _ => False
def okF (P : Program) (f : Nat) : Bool := match P.funcs[f]? with | some fn => fn.name != "runtime.NumGoroutine" && fn.body.isSome | none => false
def evCx (X : Ctx) (x : E) (es : List E) (S : St) (K : E → St → Prop) : Prop := match x with
  | .cl (.func f) a b => okF X.P f = true ∧ evCall X f (a ++ es ++ b) S K
  | .v (.cl (.func f) a b) => okF X.P f = true ∧ evCall X f (a.map .v ++ es ++ b.map .v) S K
  | .v (.sc (.func (.func f) us vs)) => us = #[] ∧ vs = #[] ∧ okF X.P f = true ∧ evCall X f es S K
  | _ => False
def evCxp (X : Ctx) (x : E) (es : List E) (K : E → Prop) : Prop := match x with
  | .v (.cl (.func f) a b) => okF X.P f = true ∧ evCallp X f (a.map .v ++ es ++ b.map .v) K
  | .v (.sc (.func (.func f) us vs)) => us = #[] ∧ vs = #[] ∧ okF X.P f = true ∧ evCallp X f es K
  | _ => False
inductive I where
  | mov (x : O)
  | nl (nid e sz : Nat)
  | bin (op : BinOp) (x y : O)
  | beq (neg : Bool) (x y : O)
  | un (op : UnOp) (x : O)
  | cv (k : IntKind) (x : O)
  | fa (off : Nat) (x : O)
  | fd (off n : Nat) (ag : Bool) (x : O)
  | ia (sz : Nat) (x i : O)
  | iaa (len sz : Nat) (x i : O)
  | ix (x i : O)
  | ixa (len n : Nat) (ag : Bool) (x i : O)
  | ld (n : Nat) (ag : Bool) (x : O)
  | sls (x : O) (lo hi : Option O)
  | slc (sz : Nat) (x : O) (lo hi mx : Option O)
  | ext (x : O) (i : Nat)
  | len (str : Bool) (x : O)
  | mm (mx : Bool) (x y : O)
  | nc (x : O)
  | pk (c x y : O)
  | bd (z : List V) (parts : List (Nat × Nat × O))
  | al (nid e : Nat) (z : List V)
  | bx (nid e : Nat) (x : O)
  | bs (nid e sz len : Nat) (parts : List O)
  | mk (nid e sz bytes : Nat) (z : List V) (l c : O)
  | ap0 (nid e sz bytes : Nat) (x : O)
  | ap (e sz bytes : Nat) (s x : O)
  | st (n : Nat) (ts : List Nat) (x v : O)
  | cp (f : Nat) (args : List O)
  | co (f nid e sz : Nat) (args : List O)
  | cb (f : Nat) (args : List O)
  | call (f : Nat) (args : List O)
  | g0 (g : G0) (xs : List O)
  | g1 (g : G1) (xs : List O)
  | g5 (g : G5) (xs : List O)
  | cxp (x : O) (args : List O)
  deriving Inhabited
structure IOp where
  d : Option Nat
  g : Option (Nat × Bool)
  nn : List Nat
  fz : List Nat
  i : I
  deriving Inhabited
def evNc (x : E) (K : E → Prop) : Prop :=
  match x with
  | .op id j f => K (.op id j f)
  | .v (.pt cs) => K (.v (.pt cs))
  | _ => False
def evPk (c x y : E) (K : E → Prop) : Prop :=
  match c with
  | .v (.sc (.bool t)) => (t = true → K x) ∧ (t = false → K y)
  | _ => False
def tgt (ts : List Nat) (x : E) : Prop := match ts with
  | [] => True
  | t :: l => match x with
    | .op id _ _ => (t :: l).contains id = true
    | _ => False
def evNew (nid : Nat) (b : Blk) (r : E) (S : St) (K : E → St → Prop) : Prop := S.heap nid = none ∧ K r ⟨S.env, upd S.heap nid (some b)⟩
def evMk (nid e sz bytes : Nat) (z : List V) (l c : E) (S : St) (K : E → St → Prop) : Prop :=
  match l, c with
  | .v (.sc (.int _ L)), .v (.sc (.int _ C)) => 0 ≤ L ∧ L ≤ C ∧ (bytes : Int) * C ≤ 281474976710656 ∧ evNew nid (.p e sz (List.replicate L.toNat z)) (.os nid 0 L.toNat) S K
  | _, _ => False
def evBsl (nid e sz len : Nat) (es : List E) (S : St) (K : E → St → Prop) : Prop :=
  match rowsE sz es with
  | some rows => evNew nid (.p e sz rows) (.os nid 0 len) S K
  | none => False
def evBx (nid e : Nat) (x : E) (S : St) (K : E → St → Prop) : Prop :=
  match cellsE x with
  | some cs => 0 < cs.length ∧ evNew nid (.m e cs) (.op nid 0 0) S K
  | none => False
def evAp0 (nid e sz bytes : Nat) (x : E) (S : St) (K : E → St → Prop) : Prop :=
  match contS S.heap x with
  | some (sz', nr) => sz' = sz ∧ nr.length * bytes ≤ 140737488355328 ∧ evNew nid (.p e sz nr) (.os nid 0 nr.length) S K
  | none => False
def evAp (e sz bytes : Nat) (s x : E) (S : St) (K : E → St → Prop) : Prop :=
  match s with
  | .os id lo n => match S.heap id with
    | some (.p e' sz' l) => match contS S.heap x with
      | some (sz2, nr) => 50 ≤ id ∧ e' = e ∧ sz' = sz ∧ sz2 = sz ∧ (n + nr.length) * bytes ≤ 140737488355328 ∧
        K (.os id 0 (n + nr.length)) ⟨envTr (E.kill id) S.env, upd (heapTr (E.kill id) S.heap) id (some (.p e sz ((l.drop lo).take n ++ nr)))⟩
      | none => False
    | _ => False
  | _ => False
def evCo (X : Ctx) (f nid e sz : Nat) (es : List E) (S : St) (K : E → St → Prop) : Prop := ∃ xs rows, es = xs.map .v ∧ FnO X f e sz xs rows ∧ evNew nid (.p e sz rows) (.os nid 0 rows.length) S K
def evAlo (nid e : Nat) : List (Nat × Nat × Nat × Nat) → List E → St → (E → St → Prop) → Prop
  | [], cs, S, K => evNew nid (.m e cs) (.op nid 0 0) S K
  | (i, n, e', sz) :: l, cs, S, K => S.heap n = none ∧ evAlo nid e l (cs.set i (.os n 0 0)) ⟨S.env, upd S.heap n (some (.p e' sz []))⟩ K
def evUst (e' : Nat) (x y : E) (S : St) (K : E → St → Prop) : Prop := match x, y with
  | .op id j f, .v (.sc (.int .i64 n)) => match S.heap id with
    | some (.p e sz rows) => e = e' ∧ j = 0 ∧ f = 0 ∧ sz = 1 ∧ 50 ≤ id ∧ 0 < n ∧ n = (rows.length : Int) ∧ ∃ s, rows = bytesV s ∧ K (.v (.sc (.string s))) ⟨envTr (E.kill id) S.env, upd (heapTr (E.kill id) S.heap) id (some (.p e sz []))⟩
    | _ => False
  | _, _ => False
def evG5 (X : Ctx) (S : St) (K : E → St → Prop) : G5 → List E → Prop
  | .cx, es => match es with | x :: as => evCx X x as S K | [] => False
  | .alo nid e z subs, _ => evAlo nid e subs (z.map .v) S K
  | .ust e, es => match es with | [x, y] => evUst e x y S K | _ => False
def evI (X : Ctx) (S : St) (K : E → St → Prop) : I → Prop
  | .mov x => K (evO S.env x) S
  | .nl nid e sz => evNew nid (.p e sz []) (.os nid 0 0) S K
  | .bin op x y => evBin op (evO S.env x) (evO S.env y) fun r => K r S
  | .beq neg x y => evBeq neg (evO S.env x) (evO S.env y) fun r => K r S
  | .un op x => evUn op (evO S.env x) fun r => K r S
  | .cv k x => evCv k (evO S.env x) fun r => K r S
  | .fa off x => evFa off (evO S.env x) S.heap fun r => K r S
  | .fd off n ag x => evFd off n ag (evO S.env x) fun r => K r S
  | .ia sz x i => evIa sz (evO S.env x) (evO S.env i) S.heap fun r => K r S
  | .iaa len sz x i => evIaa len sz (evO S.env x) (evO S.env i) S.heap fun r => K r S
  | .ix x i => evIx (evO S.env x) (evO S.env i) fun r => K r S
  | .ixa len n ag x i => evIxa len n ag (evO S.env x) (evO S.env i) fun r => K r S
  | .ld n ag x => evLd n ag (evO S.env x) S.heap fun r => K r S
  | .sls x lo hi => evSls (evO S.env x) (lo.map (evO S.env)) (hi.map (evO S.env)) fun r => K r S
  | .slc sz x lo hi mx => evSlc sz (evO S.env x) (lo.map (evO S.env)) (hi.map (evO S.env)) (mx.map (evO S.env)) S.heap fun r => K r S
  | .ext x i => evExt (evO S.env x) i fun r => K r S
  | .len str x => evLen str (evO S.env x) fun r => K r S
  | .mm mx x y => evMm mx (evO S.env x) (evO S.env y) fun r => K r S
  | .nc x => evNc (evO S.env x) fun r => K r S
  | .pk c x y => evPk (evO S.env c) (evO S.env x) (evO S.env y) fun r => K r S
  | .bd z parts => evBd z (parts.map fun p => (p.1, p.2.1, evO S.env p.2.2)) fun r => K r S
  | .al nid e z => evNew nid (.m e (z.map .v)) (.op nid 0 0) S K
  | .bx nid e x => evBx nid e (evO S.env x) S K
  | .bs nid e sz len parts => evBsl nid e sz len (parts.map (evO S.env)) S K
  | .mk nid e sz bytes z l c => evMk nid e sz bytes z (evO S.env l) (evO S.env c) S K
  | .ap0 nid e sz bytes x => evAp0 nid e sz bytes (evO S.env x) S K
  | .ap e sz bytes s x => evAp e sz bytes (evO S.env s) (evO S.env x) S K
  | .st n ts x v => tgt ts (evO S.env x) ∧ evSt n (evO S.env x) (evO S.env v) S.heap fun h => K (.v (.tu [])) ⟨S.env, h⟩
  | .cp f args => evCallp X f (args.map (evO S.env)) fun r => K r S
  | .co f nid e sz args => evCo X f nid e sz (args.map (evO S.env)) S K
  | .cb f args => evCallb X f (args.map (evO S.env)) S.heap fun r => K r S
  | .call f args => evCall X f (args.map (evO S.env)) S K
  | .g0 g xs => evG0 g (xs.map (evO S.env)) fun r => K r S
  | .g1 g xs => evG1 g (xs.map (evO S.env)) S.heap fun r => K r S
  | .g5 g xs => evG5 X S K g (xs.map (evO S.env))
  | .cxp x args => evCxp X (evO S.env x) (args.map (evO S.env)) fun r => K r S
def I.os : I → List O
  | .mov x | .un _ x | .cv _ x | .fa _ x | .fd _ _ _ x | .ld _ _ x | .ext x _ | .len _ x | .nc x | .bx _ _ x | .ap0 _ _ _ _ x => [x]
  | .bin _ x y | .beq _ x y | .ia _ x y | .iaa _ _ x y | .ix x y | .ixa _ _ _ x y | .mm _ x y | .mk _ _ _ _ _ x y | .ap _ _ _ x y | .st _ _ x y => [x, y]
  | .sls x lo hi => x :: (lo.toList ++ hi.toList)
  | .slc _ x lo hi mx => x :: (lo.toList ++ hi.toList ++ mx.toList)
  | .pk c x y => [c, x, y]
  | .bd _ ps => ps.map (·.2.2)
  | .bs _ _ _ _ ps => ps
  | .cp _ l | .cb _ l | .call _ l | .co _ _ _ _ l => l
  | .g0 _ l | .g1 _ l | .g5 _ l => l
  | .cxp x l => x :: l
  | .nl .. | .al .. => []
def nnOk (nn : List Nat) (ρ : O → E) : List O → Prop
  | [] => True
  | x :: l => (ρ x).ids (fun i => !nn.contains i) = true ∧ nnOk nn ρ l
def nnC (nn : List Nat) (ρ : O → E) (l : List O) : Prop := match nn with
  | [] => True
  | n :: ns => nnOk (n :: ns) ρ l
def wpO (X : Ctx) (o : IOp) (S : St) (K : St → Prop) : Prop :=
  match o.g with
  | none => nnC o.nn (evO S.env) o.i.os ∧ evI X S (fun r S' => K (S'.put o.d r)) o.i
  | some (t, want) => match S.env t with
    | .v (.sc (.bool b)) => if b = want then nnC o.nn (evO S.env) o.i.os ∧ evI X S (fun r S' => K (S'.put o.d r)) o.i else K (S.put o.d (.v (.tu [])))
    | .v (.tu []) => K (S.put o.d (.v (.tu [])))
    | _ => False
def wpF (X : Ctx) (o : IOp) (S : St) (K : St → Prop) : Prop :=
  match o.fz with
  | [] => wpO X o S K
  | id :: l => evFrz (id :: l) S fun S' => wpO X o S' K
def wpL (X : Ctx) : List IOp → (St → Prop) → St → Prop
  | [], K, S => K S
  | o :: l, K, S => wpF X o S fun S' => wpL X l K S'
end Go.Proofs.YtmjkhbjfacfmcaaGreatDoor.VX
end
section
namespace Go.Proofs.YtmjkhbjfacfmcaaGreatDoor.VX
open Go Go.RowKit
set_option linter.unusedVariables false
set_option linter.unusedSimpArgs false
def fldOf (P : Program) (s : TypeId) (fi : Nat) : Option Field := match P.underlying s with | some (.struct fs) => fs[fi]? | _ => none
def elOf (P : Program) (t : TypeId) : Option TypeId := match P.underlying t with | some (.slice e) => some e | _ => none
def arOf (P : Program) (t : TypeId) : Option (Nat × TypeId) := match P.underlying t with | some (.array n e) => some (n, e) | _ => none
def szOf (P : Program) (t : TypeId) : Option Nat := (P.info? t).map (·.size)
def agOf (P : Program) (t : TypeId) : Option Bool := (P.underlying t).map isAggD
def isStr (P : Program) (t : TypeId) : Bool := match P.underlying t with | some .string => true | _ => false
def isBoo (P : Program) (t : TypeId) : Bool := match P.underlying t with | some .bool => true | _ => false
def isInt (P : Program) (t : TypeId) (k : IntKind) : Bool := match P.underlying t with | some (.int k') => k' == k | _ => false
def isRow (P : Program) (t : TypeId) : Bool := match P.underlying t with | some (.slice _) => true | _ => false
def zOf (P : Program) (e : TypeId) : Option (List Value × Nat × Nat) := match P.info? e with
  | some i => match i.zero with | some z => some (z.cells.toList, i.size, i.bytes) | none => none
  | none => none
def rowEl (P : Program) (e sz bytes : Nat) : Bool := match zOf P e with | some (z, s, b) => z.length == sz && s == sz && b == bytes && decide (0 < sz) && decide (0 < bytes) | none => false
theorem fldOf_spec {P : Program} {s : TypeId} {fi : Nat} {f : Field} (h : fldOf P s fi = some f) : ∃ fs, P.underlying s = some (.struct fs) ∧ fs[fi]? = some f := by
  unfold fldOf at h
  split at h
  · rename_i fs hfs; exact ⟨fs, hfs, h⟩
  · cases h
theorem elOf_spec {P : Program} {t e : TypeId} (h : elOf P t = some e) : P.underlying t = some (.slice e) := by
  unfold elOf at h
  split at h
  · rename_i e' he; cases h; exact he
  · cases h
theorem arOf_spec {P : Program} {t : TypeId} {n e : Nat} (h : arOf P t = some (n, e)) : P.underlying t = some (.array n e) := by
  unfold arOf at h
  split at h
  · rename_i n' e' he; cases h; exact he
  · cases h
theorem szOf_spec {P : Program} {t : TypeId} {n : Nat} (h : szOf P t = some n) : ∃ i, P.info? t = some i ∧ i.size = n := by
  simpa [szOf, Option.map_eq_some_iff] using h
theorem agOf_spec {P : Program} {t : TypeId} {b : Bool} (h : agOf P t = some b) : ∃ d, P.underlying t = some d ∧ isAggD d = b := by
  simpa [agOf, Option.map_eq_some_iff] using h
theorem isStr_spec {P : Program} {t : TypeId} (h : isStr P t = true) : P.underlying t = some .string := by
  unfold isStr at h
  split at h
  · assumption
  · cases h
theorem isBoo_spec {P : Program} {t : TypeId} (h : isBoo P t = true) : P.underlying t = some .bool := by
  unfold isBoo at h
  split at h
  · assumption
  · cases h
theorem isInt_spec {P : Program} {t : TypeId} {k : IntKind} (h : isInt P t k = true) : P.underlying t = some (.int k) := by
  unfold isInt at h
  split at h
  · rename_i k' hk; rw [beq_iff_eq] at h; rw [hk, h]
  · cases h
theorem isRow_spec {P : Program} {t : TypeId} (h : isRow P t = true) : ∃ e, P.underlying t = some (.slice e) := by
  unfold isRow at h
  split at h
  · exact ⟨_, by assumption⟩
  · cases h
theorem zOf_spec {P : Program} {e : TypeId} {z : List Value} {s b : Nat} (h : zOf P e = some (z, s, b)) : ∃ i zv, P.info? e = some i ∧ i.zero = some zv ∧ zv.cells.toList = z ∧ i.size = s ∧ i.bytes = b := by
  unfold zOf at h
  split at h
  · rename_i i hi
    split at h
    · rename_i zv hz; cases h; exact ⟨i, zv, hi, hz, rfl, rfl, rfl⟩
    · cases h
  · cases h
theorem rowEl_spec {P : Program} {e sz bytes : Nat} (h : rowEl P e sz bytes = true) : ∃ i zv, P.info? e = some i ∧ i.zero = some zv ∧ zv.cells.size = i.size ∧ i.size = sz ∧ i.bytes = bytes ∧ 0 < sz ∧ 0 < bytes := by
  unfold rowEl at h
  split at h
  · rename_i z s b hz
    obtain ⟨i, zv, h1, h2, h3, h4, h5⟩ := zOf_spec hz
    simp only [Bool.and_eq_true, beq_iff_eq, decide_eq_true_eq] at h
    obtain ⟨⟨⟨⟨g1, g2⟩, g3⟩, g4⟩, g5⟩ := h
    refine ⟨i, zv, h1, h2, ?_, by omega, by omega, g4, g5⟩
    have : zv.cells.toList.length = sz := by rw [h3]; exact g1
    have e : zv.cells.size = sz := by simpa using this
    omega
  · cases h
def chkOo : Option O → Option Operand → Bool
  | none, none => true
  | some o, some x => chkO o x
  | _, _ => false
def chkOs : List O → List Operand → Bool
  | [], [] => true
  | o :: l, x :: m => chkO o x && chkOs l m
  | _, _ => false
def placesOf (P : Program) (t : TypeId) : Option (List (Nat × Nat)) := match P.underlying t with
  | some (.struct fs) => fs.toList.mapM fun f => (P.info? f.type).map fun i => (f.offset, i.size)
  | _ => none
def placeOf (P : Program) (t : TypeId) (i : Nat) : Option (Nat × Nat) := match placesOf P t with
  | some l => l[i]?
  | none => match arOf P t with
    | some (_, e) => match szOf P e with | some s => some (i * s, s) | none => none
    | none => none
def hasPl (P : Program) (t : TypeId) : Bool := (placesOf P t).isSome || (match arOf P t with | some (_, e) => (szOf P e).isSome | none => false)
def chkPs (P : Program) (t : TypeId) : List (Nat × Nat × O) → List (Nat × Operand) → Bool
  | [], [] => true
  | (off, n, o) :: l, (i, x) :: m => placeOf P t i == some (off, n) && chkO o x && chkPs P t l m
  | _, _ => false
def chkBs : Nat → List O → List (Nat × Operand) → Bool
  | _, [], [] => true
  | k, o :: l, (i, x) :: m => i == k && chkO o x && chkBs (k + 1) l m
  | _, _, _ => false
def callee1 (c : Call) (b : Builtin) : Bool := match c.callee with | .builtin b' => b' == b | _ => false
def calleeF (P : Program) (c : Call) (f : Nat) : Bool := match c.callee with
  | .value (.func g) => g == f && (match P.funcs[f]? with | some fn => fn.name != "runtime.NumGoroutine" && fn.body.isSome | none => false)
  | _ => false
def notInt (P : Program) (t : Option TypeId) : Bool := match t with
  | some t => match P.underlying t with | some (.int _) => false | some _ => true | none => false
  | none => false
def isPtr (P : Program) (t : TypeId) : Bool := match P.underlying t with | some (.pointer e) => (P.info? e).isSome | _ => false
def isIfc (P : Program) (t : TypeId) : Bool := match P.underlying t with | some (.interface _) => true | _ => false
theorem isPtr_spec {P : Program} {t : TypeId} (h : isPtr P t = true) : ∃ e j, P.underlying t = some (.pointer e) ∧ P.info? e = some j := by
  unfold isPtr at h
  split at h
  · rename_i e he
    obtain ⟨j, hj⟩ := Option.isSome_iff_exists.1 h
    exact ⟨e, j, he, hj⟩
  · cases h
theorem isIfc_spec {P : Program} {t : TypeId} (h : isIfc P t = true) : ∃ ms, P.underlying t = some (.interface ms) := by
  unfold isIfc at h
  split at h
  · exact ⟨_, by assumption⟩
  · cases h
def isU8s (P : Program) (t : TypeId) : Bool := match elOf P t with | some e => isInt P e .u8 | none => false
def fnIs : Go.Fn → Nat → Bool
  | .func k, f => k == f
  | _, _ => false
theorem fnIs_spec {fn : Go.Fn} {f : Nat} (h : fnIs fn f = true) : fn = .func f := by
  unfold fnIs at h
  split at h
  · rw [beq_iff_eq] at h; rw [h]
  · cases h
def chkG0 (P : Program) : G0 → List O → Op → Bool
  | .mf f n, xs, .makeFunc fn us vs => fnIs fn f && us.size == n && chkOs xs (us.toList ++ vs.toList)
  | .peq neg, xs, .binOp op t a b _ => op == (if neg then .neq else .eql) && chkOs xs [a, b] && isPtr P t
  | .ieq neg, xs, .binOp op t a (.const v) _ => op == (if neg then .neq else .eql) && chkOs xs [a, .const v] && isIfc P t
  | _, _, _ => false
def chkG1 (P : Program) : G1 → List O → Op → Bool
  | .b2s, xs, .convert src dst a => isU8s P src && isStr P dst && chkOs xs [a]
  | .usd, xs, .call c => callee1 c .unsafeSliceData && chkOs xs c.args.toList
  | _, _, _ => false
def chkSubs (z : List V) (zs : List Value) : List (Nat × Nat × Nat × Nat) → Bool
  | [] => true
  | (i, n, _, sz) :: l => decide (50 ≤ n) && decide (0 < sz) && (match zs[i]? with | some v => isNil v | none => false) && chkSubs z zs l
def chkG5 (P : Program) : G5 → List O → Op → Bool
  | .cx, xs, .call c => (match c.callee with | .value y => chkOs xs (y :: c.args.toList) | _ => false)
  | .alo nid e z subs, _, .alloc t => e == t && decide (50 ≤ nid) && decide (0 < z.length) && (match zOf P t with | some (zs, _, _) => isKL z zs && chkSubs z zs subs | none => false)
  | .ust e', xs, .call c => callee1 c .unsafeString && chkOs xs c.args.toList && (match c.argTypes.toList with | [t, _] => (match P.underlying t with | some (.pointer e) => e == e' && P.cellsOf e == 1 | _ => false) | _ => false)
  | _, _, _ => false
def chkI (P : Program) : I → Op → Bool
  | .mov x, .move y => chkO x y
  | .mov x, .assign y => chkO x y
  | .nl nid _ sz, .move (.const v) => decide (50 ≤ nid) && decide (0 < sz) && isNil v
  | .nl nid _ sz, .assign (.const v) => decide (50 ≤ nid) && decide (0 < sz) && isNil v
  | .bin op x y, .binOp op' _ a b _ => op == op' && chkO x a && chkO y b
  | .beq neg x y, .binOp op t a b _ => op == (if neg then .neq else .eql) && chkO x a && chkO y b && isBoo P t
  | .un op x, .unOp op' _ a => op == op' && chkO x a
  | .cv k x, .convert src dst a => (P.underlying src).isSome && isInt P dst k && chkO x a
  | .fa off x, .fieldAddr s a fi => chkO x a && (match fldOf P s fi with | some f => f.offset == off && (match szOf P f.type with | some n => n != 0 | none => false) | none => false)
  | .fd off n ag x, .field t a fi => chkO x a && (match fldOf P t fi with | some f => f.offset == off && szOf P f.type == some n && agOf P f.type == some ag | none => false)
  | .ia sz x i, .indexAddr t a b => chkO x a && chkO i b && decide (0 < sz) && (match elOf P t with | some e => szOf P e == some sz | none => false)
  | .iaa len sz x i, .indexAddr t a b => chkO x a && chkO i b && (match arOf P t with | some (n, e) => n == len && szOf P e == some sz | none => false)
  | .ix x i, .index t a b => chkO x a && chkO i b && isStr P t
  | .ixa len n ag x i, .index t a b => chkO x a && chkO i b && (match arOf P t with | some (m, e) => m == len && szOf P e == some n && agOf P e == some ag | none => false)
  | .ld n ag x, .load t a => chkO x a && szOf P t == some n && agOf P t == some ag
  | .sls x lo hi, .slice t a l h none => chkO x a && chkOo lo l && chkOo hi h && isStr P t
  | .slc sz x lo hi mx, .slice t a l h m => chkO x a && chkOo lo l && chkOo hi h && chkOo mx m && (match elOf P t with | some e => szOf P e == some sz | none => false)
  | .ext x i, .extract a j => chkO x a && i == j
  | .len str x, .call c => callee1 c .len && (match c.args.toList, c.argTypes.toList with | [a], [t] => chkO x a && (if str then isStr P t else isRow P t) | _, _ => false)
  | .mm mx x y, .call c => callee1 c (if mx then .max else .min) && chkOs [x, y] c.args.toList
  | .nc x, .nilCheck a => chkO x a
  | .pk c x y, .pick a b d => chkO c a && chkO x b && chkO y d
  | .bd z ps, .build t qs => hasPl P t && (match zOf P t with | some (zs, _, _) => isKL z zs | none => false) && chkPs P t ps qs.toList
  | .al nid e z, .alloc t => e == t && decide (50 ≤ nid) && decide (0 < z.length) && (match zOf P t with | some (zs, _, _) => isKL z zs | none => false)
  | .bx nid e x, .box t a => e == t && decide (50 ≤ nid) && chkO x a
  | .bs nid e sz len ps, .buildSlice t n qs => n == len && ps.length == len && decide (50 ≤ nid) && decide (len * sz ≤ 16777216) && decide (0 < sz) && elOf P t == some e && (match zOf P e with | some (_, s, _) => s == sz | none => false) && chkBs 0 ps qs.toList
  | .mk nid e sz bytes z l c, .makeSlice t a b => decide (50 ≤ nid) && elOf P t == some e && rowEl P e sz bytes && z.length == sz && (match zOf P e with | some (zs, _, _) => isKL z zs | none => false) && chkO l a && chkO c b
  | .ap0 nid e sz bytes x, .call c => callee1 c .append && decide (50 ≤ nid) && rowEl P e sz bytes && (match c.args.toList, c.argTypes.toList with | [.const v, a], [t, t2] => isNil v && chkO x a && elOf P t == some e && notInt P (some t2) | _, _ => false)
  | .ap e sz bytes s x, .call c => callee1 c .append && rowEl P e sz bytes && (match c.args.toList, c.argTypes.toList with | [b, a], [t, t2] => chkO s b && chkO x a && elOf P t == some e && notInt P (some t2) | _, _ => false)
  | .st n _ x v, .store t a b => chkO x a && chkO v b && szOf P t == some n
  | .cp f args, .call c => calleeF P c f && chkOs args c.args.toList
  | .co f nid _ _ args, .call c => decide (50 ≤ nid) && calleeF P c f && chkOs args c.args.toList
  | .cb f args, .call c => calleeF P c f && chkOs args c.args.toList
  | .call f args, .call c => calleeF P c f && chkOs args c.args.toList
  | .g0 g xs, op => chkG0 P g xs op
  | .g1 g xs, op => chkG1 P g xs op
  | .g5 g xs, op => chkG5 P g xs op
  | .cxp x args, .call c => (match c.callee with | .value y => chkOs (x :: args) (y :: c.args.toList) | _ => false)
  | _, _ => false
end Go.Proofs.YtmjkhbjfacfmcaaGreatDoor.VX
end
section
namespace Go.Proofs.YtmjkhbjfacfmcaaGreatDoor.VX
open Go Go.RowKit
set_option linter.unusedVariables false
set_option linter.unusedSimpArgs false
section
variable {X : Ctx} {R : Run X} {φ : Nat → Option Pl} {S : St} {w : World} {a : Act} {P : Program}
theorem wp_val {o : Oper} {next : Act → World → Prop} {Q : Exit → Act → World → Prop} {s : Sem Value} {u : Value} {w' : World} (he : execOp a.eval o = (do pure (Go.Next.value (← s)))) (h : s.run P w = .ok u w') (k : next (a.put o.dst u) w') : o.wp P a w next Q := by
  unfold Oper.wp
  rw [he, Sem.run_bind, h]
  exact k
theorem placed (A : At R φ S a.tmps w) : Placed φ S.heap := fun id b pl hb hp => by
  have h := A.h.blk id b hb
  cases b with
  | p e sz l =>
    obtain ⟨_, h | ⟨pl', _, g1, g2, _⟩⟩ := h
    · rw [h.1] at hp; cases hp
    · rw [hp] at g1; cases g1; exact g2
  | m e cs =>
    obtain ⟨pl', _, g1, _, g3, _⟩ := h
    rw [hp] at g1; cases g1; exact g3
theorem rep_Oo {o : Option O} {x : Option Operand} (h : chkOo o x = true) (A : At R φ S a.tmps w) : RepEo w (okOf R.w0 R.ok0 φ S.heap w) φ (lnOf S.heap) (o.map (evO S.env)) (x.map a.eval) := by
  cases o <;> cases x <;> simp only [chkOo, Bool.false_eq_true] at h
  · trivial
  · exact rep_O h A.env
theorem rep_Os {w : World} {ok : Nat → Prop} {φ : Nat → Option Pl} {ln : Nat → Option Nat} {env : Env} {a : Act} (A : ∀ t, RepE w ok φ ln (env t) (a.tmps.getD t undef)) :
    ∀ {l : List O} {m : List Operand}, chkOs l m = true → RepAs w ok φ ln (l.map (evO env)) (m.map a.eval)
  | [], [], _ => ⟨rfl, by simp⟩
  | o :: l, x :: m, h => by
    rw [chkOs, Bool.and_eq_true] at h
    obtain ⟨h1, h2⟩ := rep_Os A h.2
    refine ⟨by simp only [List.map_cons, List.length_cons, h1], fun i y u hy hu => ?_⟩
    cases i with
    | zero =>
      obtain rfl : evO env o = y := by simpa using hy
      obtain rfl : a.eval x = u := by simpa using hu
      exact rep_O h.1 A
    | succ i => exact h2 i y u (by simpa using hy) (by simpa using hu)
  | [], _ :: _, h => by simp [chkOs] at h
  | _ :: _, [], h => by simp [chkOs] at h
theorem rep_Ps {w : World} {ok : Nat → Prop} {φ : Nat → Option Pl} {ln : Nat → Option Nat} {env : Env} {a : Act} {t : TypeId} (A : ∀ t, RepE w ok φ ln (env t) (a.tmps.getD t undef)) :
    ∀ {l : List (Nat × Nat × O)} {m : List (Nat × Operand)}, chkPs P t l m = true → l.length = m.length ∧
      ∀ (i : Nat) p q, (l.map fun p => (p.1, p.2.1, evO env p.2.2))[i]? = some p → (m.map fun q => (q.1, a.eval q.2))[i]? = some q → placeOf P t q.1 = some (p.1, p.2.1) ∧ RepE w ok φ ln p.2.2 q.2
  | [], [], _ => ⟨rfl, by simp⟩
  | (off, n, o) :: l, (i, x) :: m, h => by
    rw [chkPs, Bool.and_eq_true, Bool.and_eq_true, beq_iff_eq] at h
    obtain ⟨h1, h2⟩ := rep_Ps A h.2
    refine ⟨by simp only [List.length_cons, h1], fun k p q hp hq => ?_⟩
    cases k with
    | zero =>
      obtain rfl : (off, n, evO env o) = p := by simpa using hp
      obtain rfl : (i, a.eval x) = q := by simpa using hq
      exact ⟨h.1.1, rep_O h.1.2 A⟩
    | succ k => exact h2 k p q (by simpa using hp) (by simpa using hq)
  | [], _ :: _, h => by simp [chkPs] at h
  | _ :: _, [], h => by simp [chkPs] at h
theorem rep_Bs {w : World} {ok : Nat → Prop} {φ : Nat → Option Pl} {ln : Nat → Option Nat} {env : Env} {a : Act} (A : ∀ t, RepE w ok φ ln (env t) (a.tmps.getD t undef)) :
    ∀ {k : Nat} {l : List O} {m : List (Nat × Operand)}, chkBs k l m = true → (m.map fun q => (q.1, a.eval q.2)) = ((m.map fun q => a.eval q.2).zipIdx k).map (fun x => (x.2, x.1)) ∧ RepAs w ok φ ln (l.map (evO env)) (m.map fun q => a.eval q.2)
  | _, [], [], _ => ⟨rfl, rfl, by simp⟩
  | k, o :: l, (i, x) :: m, h => by
    rw [chkBs, Bool.and_eq_true, Bool.and_eq_true, beq_iff_eq] at h
    obtain ⟨h0, h1, h2⟩ := rep_Bs A h.2
    refine ⟨by simp only [List.map_cons, List.zipIdx_cons, h0, h.1.1], by simp only [List.map_cons, List.length_cons, h1], fun j y u hy hu => ?_⟩
    cases j with
    | zero =>
      obtain rfl : evO env o = y := by simpa using hy
      obtain rfl : a.eval x = u := by simpa using hu
      exact rep_O h.1.2 A
    | succ j => exact h2 j y u (by simpa using hy) (by simpa using hu)
  | _, [], _ :: _, h => by simp [chkBs] at h
  | _, _ :: _, [], h => by simp [chkBs] at h
theorem built_place {t : TypeId} {zs : List Value} {s b : Nat} (hz : zOf P t = some (zs, s, b)) (hs0 : hasPl P t = true) : ∃ zv : Value, zv.cells.toList = zs ∧ ∀ qs, P.built t qs = Instr.fill (placeOf P t) zv.cells qs := by
  have hs : placesOf P t ≠ none ∨ ∃ n e s', arOf P t = some (n, e) ∧ szOf P e = some s' := by
    unfold hasPl at hs0
    rw [Bool.or_eq_true] at hs0
    rcases hs0 with h | h
    · exact .inl fun he => by rw [he] at h; cases h
    · split at h
      · rename_i n e ha
        obtain ⟨s', hs'⟩ := Option.isSome_iff_exists.1 h
        exact .inr ⟨n, e, s', ha, hs'⟩
      · cases h
  obtain ⟨i, zv, h1, h2, h3, _, _⟩ := zOf_spec hz
  refine ⟨zv, h3, fun qs => ?_⟩
  unfold Program.built
  cases hp : placesOf P t with
  | some l =>
    have hp0 := hp
    unfold placesOf at hp
    split at hp
    · rename_i fs hfs
      simp only [h1, hfs, h2, hp]
      congr 1
      funext i
      simp [placeOf, hp0]
    · cases hp
  | none =>
    rcases hs with hs | ⟨n, e, s', ha, hsz⟩
    · exact absurd hp hs
    · obtain ⟨ie, hie, rfl⟩ := szOf_spec hsz
      simp only [h1, arOf_spec ha, h2, hie]
      congr 1
      funext i
      simp [placeOf, hp, ha, hsz]
theorem run_builtin {b : Builtin} {c : Call} {ty : TypeId} {args : List Value} (hc : callee1 c b = true) (hargs : c.args.toList.map a.eval = args) {s : Sem Value} (hs : ∀ cs, builtin b c.argTypes ty cs args.toArray = (do pure (Go.Next.value (← s)))) {w : World} {u : Value} {w' : World} (h : s.run P w = .ok u w') :
    (do let d ← resolve a.eval c ty; invoke d.target d.args : Sem Go.Next).run P w = .ok (.value u) w' := by
  unfold callee1 at hc
  split at hc
  · rename_i b' hb
    rw [beq_iff_eq] at hc
    subst hc
    have ha : c.args.map a.eval = args.toArray := by
      apply Array.ext'
      simp [hargs]
    simp only [resolve, hb, Sem.run_bind, Sem.run_pure, Result.andThen_ok, invoke, ha, hs, h]
  · cases hc
theorem run_callee {c : Call} {f : Nat} {ty : TypeId} {args : List Value} (hc : calleeF P c f = true) (hargs : c.args.toList.map a.eval = args) {w : World} :
    (do let d ← resolve a.eval c ty; invoke d.target d.args : Sem Go.Next).run P w = .ok (.enter f args.toArray) w := by
  unfold calleeF at hc
  split at hc
  · rename_i g hg
    rw [Bool.and_eq_true, beq_iff_eq] at hc
    obtain ⟨rfl, hc⟩ := hc
    split at hc
    · rename_i fn hfn
      rw [Bool.and_eq_true, bne_iff_ne] at hc
      have ha : c.args.map a.eval = args.toArray := by
        apply Array.ext'
        simp [hargs]
      obtain ⟨body, hb⟩ := Option.isSome_iff_exists.1 hc.2
      simp [resolve, hg, Act.eval, Deferred.ofValue, invoke, callFunc, ha, hfn, hc.1, hb, Sem.run_bind]
    · cases hc
  · cases hc
end
end Go.Proofs.YtmjkhbjfacfmcaaGreatDoor.VX
end
section
namespace Go.Proofs.YtmjkhbjfacfmcaaGreatDoor.VX
open Go Go.RowKit
set_option linter.unusedVariables false
set_option linter.unusedSimpArgs false
mutual
                                 
def E.ren (f : Nat → Nat) : E → E
  | .v x => .v x
  | .dead => .dead
  | .os i l n => .os (f i) l n
  | .op i j k => .op (f i) j k
  | .ag cs => .ag (renL f cs)
  | .tu cs => .tu (renL f cs)
  | .cl fn a b => .cl fn (renL f a) (renL f b)
def renL (f : Nat → Nat) : List E → List E
  | [] => []
  | x :: l => x.ren f :: renL f l
end
theorem renL_map (f : Nat → Nat) : ∀ l : List E, renL f l = l.map (E.ren f)
  | [] => rfl
  | x :: l => by rw [renL, renL_map f l]; rfl
theorem RepE.ren {w w' : World} {ok ok' : Nat → Prop} {φ φ' : Nat → Option Pl} {ln ln' : Nat → Option Nat} (p : Nat → Bool) (f : Nat → Nat) (h : ∀ b, ok b → ok' b ∧ w'.heap[b]? = w.heap[b]?)
    (hi : ∀ id L, p id = true → ln id = some L → ln' (f id) = some L ∧ φ' (f id) = φ id) {e : E} {u : Value} (r : RepE w ok φ ln e u) (he : e.ids p = true) : RepE w' ok' φ' ln' (e.ren f) u := by
  induction r with
  | v x u hv => exact .v x u (hv.mono h)
  | dead u => exact .dead u
  | osn id L hl hp =>
    obtain ⟨a, b⟩ := hi id L he hl
    exact .osn _ L a (b.trans hp)
  | os id lo n a c pl L hl hp h1 h2 h3 ha =>
    obtain ⟨x, b⟩ := hi id L he hl
    exact .os _ lo n a c pl L x (b.trans hp) h1 h2 h3 ha
  | op id j f' pl L hl hp hj hf =>
    obtain ⟨x, b⟩ := hi id L he hl
    exact .op _ j f' pl L x (b.trans hp) hj hf
  | ag cs us h0 h1 _ ih =>
    rw [E.ren, renL_map]
    refine .ag _ us (by simpa using h0) h1 fun i x u hx hu => ?_
    rw [List.getElem?_map, Option.map_eq_some_iff] at hx
    obtain ⟨y, hy, rfl⟩ := hx
    exact ih i y u hy hu (idsL_get he i y hy)
  | tu cs us h0 _ ih =>
    rw [E.ren, renL_map]
    refine .tu _ us (by simpa using h0) fun i x u hx hu => ?_
    rw [List.getElem?_map, Option.map_eq_some_iff] at hx
    obtain ⟨y, hy, rfl⟩ := hx
    exact ih i y u hy hu (idsL_get he i y hy)
  | cl fn a b us vs h0 h1 _ _ ih ik =>
    rw [E.ids, Bool.and_eq_true] at he
    rw [E.ren, renL_map, renL_map]
    refine .cl fn _ _ us vs (by simpa using h0) (by simpa using h1) (fun i x u hx hu => ?_) fun i x u hx hu => ?_
    · rw [List.getElem?_map, Option.map_eq_some_iff] at hx
      obtain ⟨y, hy, rfl⟩ := hx
      exact ih i y u hy hu (idsL_get he.1 i y hy)
    · rw [List.getElem?_map, Option.map_eq_some_iff] at hx
      obtain ⟨y, hy, rfl⟩ := hx
      exact ik i y u hy hu (idsL_get he.2 i y hy)
def isP : Option Blk → Prop
  | some (.p _ _ _) => True
  | _ => False
theorem RepB.row {w w' : World} {ok ok' : Nat → Prop} {φ φ' : Nat → Option Pl} {ln ln' : Nat → Option Nat} {id id' : Nat} {b : Blk} (hp : isP (some b)) (h : ∀ b, ok b → ok' b ∧ w'.heap[b]? = w.heap[b]?)
    (hφ : φ' id' = φ id) (hb : ∀ pl, φ id = some pl → w'.heap[pl.b]? = w.heap[pl.b]?) (r : RepB w ok φ ln id b) : RepB w' ok' φ' ln' id' b := by
  cases b with
  | p e sz l =>
    obtain ⟨h0, h1⟩ := r
    refine ⟨h0, ?_⟩
    rcases h1 with ⟨h1, h2⟩ | ⟨pl, cur, h1, h2, h3, h4, h5, h6, h7, h8⟩
    · exact .inl ⟨hφ.trans h1, h2⟩
    · refine .inr ⟨pl, cur, hφ.trans h1, h2, h3, h4, h5, (hb pl h1).trans h6, h7, fun j f r x hj hf => ?_⟩
      obtain ⟨u, hu, h9, h10⟩ := h8 j f r x hj hf
      exact ⟨u, hu, h9, h10.mono h⟩
  | m e cs => exact hp.elim
def toC (l : List (Nat × Nat)) (k : Nat) : Nat := match l.find? (fun p => p.1 == k) with | some p => p.2 | none => k
def toK (l : List (Nat × Nat)) (c : Nat) : Option Nat := (l.find? (fun p => p.2 == c)).map (·.1)
structure Names (lend new : List (Nat × Nat)) : Prop where
  k50 : ∀ p ∈ lend, p.1 < 50
  n100 : ∀ p ∈ new, 100 ≤ p.1
  c50 : ∀ p ∈ new, 50 ≤ p.2
  fst : ∀ p ∈ lend ++ new, ∀ q ∈ lend ++ new, p.1 = q.1 → p = q
  snd : ∀ p ∈ lend ++ new, ∀ q ∈ lend ++ new, p.2 = q.2 → p = q
def namesB (lend new : List (Nat × Nat)) : Bool :=
  lend.all (fun p => decide (p.1 < 50)) && new.all (fun p => decide (100 ≤ p.1) && decide (50 ≤ p.2)) && (lend ++ new).all fun p => (lend ++ new).all fun q => (p.1 != q.1 || p == q) && (p.2 != q.2 || p == q)
theorem namesB_spec {lend new : List (Nat × Nat)} (h : namesB lend new = true) : Names lend new := by
  unfold namesB at h
  simp only [Bool.and_eq_true, List.all_eq_true, decide_eq_true_eq, Bool.or_eq_true, bne_iff_ne, beq_iff_eq] at h
  obtain ⟨⟨h1, h2⟩, h3⟩ := h
  exact ⟨h1, fun p hp => (h2 p hp).1, fun p hp => (h2 p hp).2, fun p hp q hq e => ((h3 p hp q hq).1).resolve_left (fun hne => hne e), fun p hp q hq e => ((h3 p hp q hq).2).resolve_left (fun hne => hne e)⟩
theorem toC_mem {l : List (Nat × Nat)} (hf : ∀ p ∈ l, ∀ q ∈ l, p.1 = q.1 → p = q) {p : Nat × Nat} (hp : p ∈ l) : toC l p.1 = p.2 := by
  unfold toC
  split
  · rename_i q hq
    have h1 := List.mem_of_find?_eq_some hq
    have h2 := List.find?_some hq
    rw [hf p hp q h1 (by simpa using (beq_iff_eq.1 h2).symm)]
  · rename_i hn
    have := List.find?_eq_none.1 hn p hp
    simp at this
theorem toK_mem {l : List (Nat × Nat)} (hs : ∀ p ∈ l, ∀ q ∈ l, p.2 = q.2 → p = q) {p : Nat × Nat} (hp : p ∈ l) : toK l p.2 = some p.1 := by
  unfold toK
  cases hq : l.find? (fun q => q.2 == p.2) with
  | some q =>
    have h1 := List.mem_of_find?_eq_some hq
    have h2 := List.find?_some hq
    rw [hs p hp q h1 (by simpa using (beq_iff_eq.1 h2).symm)]
    rfl
  | none =>
    have := List.find?_eq_none.1 hq p hp
    simp at this
theorem toK_some {l : List (Nat × Nat)} {c k : Nat} (h : toK l c = some k) : (k, c) ∈ l := by
  unfold toK at h
  rw [Option.map_eq_some_iff] at h
  obtain ⟨p, hp, rfl⟩ := h
  have h1 := List.mem_of_find?_eq_some hp
  have h2 := List.find?_some hp
  rw [← beq_iff_eq.1 h2]
  exact h1
def lentH (l : List (Nat × Nat)) (h : Heap) (k : Nat) : Option Blk := match l.find? (fun p => p.1 == k) with | some p => h p.2 | none => none
def backH (l : List (Nat × Nat)) (H : Heap) (h : Heap) (c : Nat) : Option Blk := match toK l c with | some k => H k | none => h c
def lentP (l : List (Nat × Nat)) (φ : Nat → Option Pl) (k : Nat) : Option Pl := match l.find? (fun p => p.1 == k) with | some p => φ p.2 | none => none
theorem find_fst {l : List (Nat × Nat)} (hf : ∀ p ∈ l, ∀ q ∈ l, p.1 = q.1 → p = q) {p : Nat × Nat} (hp : p ∈ l) : l.find? (fun q => q.1 == p.1) = some p := by
  cases hq : l.find? (fun q => q.1 == p.1) with
  | some q =>
    have h1 := List.mem_of_find?_eq_some hq
    have h2 := List.find?_some hq
    rw [hf p hp q h1 (by simpa using (beq_iff_eq.1 h2).symm)]
  | none =>
    have := List.find?_eq_none.1 hq p hp
    simp at this
theorem lentH_some {l : List (Nat × Nat)} {h : Heap} {k : Nat} (hs : (lentH l h k).isSome = true) (φ : Nat → Option Pl) : ∃ c, (k, c) ∈ l ∧ lentH l h k = h c ∧ lentP l φ k = φ c := by
  unfold lentH lentP at *
  cases hq : l.find? (fun p => p.1 == k) with
  | some p =>
    rw [hq] at hs
    have h1 := List.mem_of_find?_eq_some hq
    have h2 : p.1 = k := by simpa using List.find?_some hq
    exact ⟨p.2, by rw [← h2]; exact h1, rfl, rfl⟩
  | none => rw [hq] at hs; cases hs
section
variable {X : Ctx} {f : Nat} {lend new : List (Nat × Nat)} {es : List E} {S : St} {K : E → St → Prop} {Q : Heap → E → Prop}
theorem call_of (hn : namesB lend new = true) (hl : ∀ p ∈ lend, isP (S.heap p.2)) (hw : ∀ p ∈ new, S.heap p.2 = none) (hes : ∀ e ∈ es, e.ids (fun c => (lend.any fun p => p.2 == c)) = true)
    (hc : Ctr X f (lentH lend S.heap) (es.map (E.ren fun c => (toK lend c).getD 0)) Q)
    (hk : ∀ H1 r, Q H1 r → (∀ p ∈ lend ++ new, isP (H1 p.1)) ∧ (∀ k, (H1 k).isSome = true → ∃ c, (k, c) ∈ lend ++ new) ∧ r.ids (fun k => ((lend ++ new).any fun p => p.1 == k)) = true ∧ K (r.ren (toC (lend ++ new))) ⟨S.env, backH (lend ++ new) H1 S.heap⟩) :
    evCall X f es S K := by
  intro R φ tm w vals A RA
  have N := namesB_spec hn
  have lf : ∀ p ∈ lend, ∀ q ∈ lend, p.1 = q.1 → p = q := fun p hp q hq => N.fst p (by simp [hp]) q (by simp [hq])
  have ls : ∀ p ∈ lend, ∀ q ∈ lend, p.2 = q.2 → p = q := fun p hp q hq => N.snd p (by simp [hp]) q (by simp [hq])
  have h0 : ∀ p ∈ lend, lentH lend S.heap p.1 = S.heap p.2 ∧ lentP lend φ p.1 = φ p.2 := fun p hp => by
    unfold lentH lentP
    rw [find_fst lf hp]
    exact ⟨rfl, rfl⟩
  have hsome : ∀ p ∈ lend, (S.heap p.2).isSome = true := fun p hp => by
    have := hl p hp
    cases hh : S.heap p.2 with
    | none => rw [hh] at this; exact this.elim
    | some b => rfl
  have mine : ∀ b, Mine (lentH lend S.heap) (lentP lend φ) b → ∃ p ∈ lend, ∃ pl, φ p.2 = some pl ∧ pl.b = b := fun b ⟨id, pl, h1, h2, h3⟩ => by
    obtain ⟨c, g1, g2, g3⟩ := lentH_some h1 φ
    exact ⟨(id, c), g1, pl, g3 ▸ h2, h3⟩
  have okmine : ∀ b, okOf R.w0 R.ok0 φ S.heap w b → ¬ Mine (lentH lend S.heap) (lentP lend φ) b := fun b hb hm => by
    obtain ⟨p, hp, pl, h1, h2⟩ := mine b hm
    exact hb.2.2 _ pl (hsome p hp) h1 h2
  have okc : ∀ b, okOf R.w0 R.ok0 φ S.heap w b → okOf w (okOf R.w0 R.ok0 φ S.heap w) (lentP lend φ) (lentH lend S.heap) w b := fun b hb =>
    ⟨.inl hb, hb.2.1, fun id pl h1 h2 h3 => by
      obtain ⟨c, g1, g2, g3⟩ := lentH_some h1 φ
      exact hb.2.2 c pl (hsome _ g1) (g3 ▸ h2) h3⟩
  have HR : HRep w (Mine (lentH lend S.heap) (lentP lend φ)) (okOf R.w0 R.ok0 φ S.heap w) (lentP lend φ) (lentH lend S.heap) w := by
    refine ⟨fun id b hb => ?_, fun id id' pl pl' h1 h2 h3 h4 h5 => ?_, fun id pl h1 h2 => ?_, fun _ _ _ => rfl, rfl, rfl, rfl, Nat.le_refl _, fun b hb => ⟨hb.2.1, okmine b hb⟩⟩
    · obtain ⟨c, g1, g2, g3⟩ := lentH_some (by rw [hb]; rfl) φ
      rw [g2] at hb
      have hp := hl _ g1
      have hb' : S.heap c = some b := hb
      rw [show S.heap (id, c).2 = some b from hb'] at hp
      exact (A.h.blk c b hb').row hp (fun b hb => ⟨okc b hb, rfl⟩) g3 fun _ _ => rfl
    · obtain ⟨c, g1, g2, g3⟩ := lentH_some h1 φ
      obtain ⟨c', g1', g2', g3'⟩ := lentH_some h2 φ
      have := A.h.inj c c' pl pl' (hsome _ g1) (hsome _ g1') (g3 ▸ h3) (g3' ▸ h4) h5
      exact congrArg Prod.fst (ls _ g1 _ g1' this)
    · obtain ⟨c, g1, g2, g3⟩ := lentH_some h1 φ
      have hid := N.k50 _ g1
      exact ⟨(A.h.own c pl (hsome _ g1) (g3 ▸ h2)).1, .inr ⟨⟨id, pl, h1, h2, rfl⟩, by simp only at hid; omega⟩⟩
  obtain ⟨gG, gng⟩ := A.gw
  refine (hc w _ (lentP lend φ) vals gG gng HR (fun b hb => ?_) (fun id hid => ?_) ?_).mono ?_
  · obtain ⟨p, hp, pl, h1, h2⟩ := mine b hb
    rcases (A.h.own p.2 pl (hsome p hp) h1).2 with h | h
    · have := R.ng; omega
    · exact h2 ▸ R.mg _ h.1
  · obtain ⟨c, g1, _, _⟩ := lentH_some hid φ
    have := N.k50 _ g1
    simp only at this
    omega
  · refine ⟨by simpa using RA.1, fun i x u hx hu => ?_⟩
    rw [List.getElem?_map, Option.map_eq_some_iff] at hx
    obtain ⟨y, hy, rfl⟩ := hx
    refine (RA.2 i y u hy hu).ren _ _ (fun b hb => ⟨okc b hb, rfl⟩) (fun id L hp hL => ?_) (hes y (List.mem_of_getElem? hy))
    rw [List.any_eq_true] at hp
    obtain ⟨q, hq, hqe⟩ := hp
    have hqe : q.2 = id := by simpa using hqe
    subst hqe
    rw [toK_mem ls hq]
    obtain ⟨g1, g2⟩ := h0 q hq
    refine ⟨?_, g2⟩
    show (lentH lend S.heap q.1).map Blk.len = some L
    rw [g1]
    exact hL
  rintro e w' ⟨v, H1, r, φ', rfl, hQ, HR', hr, pin⟩
  obtain ⟨k1, k2, k3, k4⟩ := hk H1 r hQ
  have sd' : ∀ p ∈ lend ++ new, ∀ q ∈ lend ++ new, p.2 = q.2 → p = q := N.snd
  have h1some : ∀ p ∈ lend ++ new, (H1 p.1).isSome = true := fun p hp => by
    have := k1 p hp
    cases hh : H1 p.1 with
    | none => rw [hh] at this; exact this.elim
    | some b => rfl
  have pinned : ∀ p ∈ lend, φ' p.1 = φ p.2 ∧ lnOf H1 p.1 = lnOf S.heap p.2 := fun p hp => by
    obtain ⟨g1, g2⟩ := pin p.1 (N.k50 p hp) (h1some p (by simp [hp]))
    obtain ⟨g3, g4⟩ := h0 p hp
    refine ⟨g1.trans g4, g2.trans ?_⟩
    unfold lnOf
    rw [g3]
  obtain ⟨φ2, hφ2⟩ : ∃ φ2 : Nat → Option Pl, ∀ c, φ2 c = match toK (lend ++ new) c with | some k => φ' k | none => φ c := ⟨_, fun _ => rfl⟩
  have cases2 : ∀ c, (toK (lend ++ new) c = none ∧ φ2 c = φ c ∧ backH (lend ++ new) H1 S.heap c = S.heap c) ∨ ∃ k, (k, c) ∈ lend ++ new ∧ φ2 c = φ' k ∧ backH (lend ++ new) H1 S.heap c = H1 k := fun c => by
    have e := hφ2 c
    unfold backH
    cases ht : toK (lend ++ new) c with
    | none => rw [ht] at e; exact .inl ⟨rfl, e, rfl⟩
    | some k => rw [ht] at e; exact .inr ⟨k, toK_some ht, e, rfl⟩
  have hi : ∀ id L, lnOf S.heap id = some L → lnOf (backH (lend ++ new) H1 S.heap) id = some L ∧ φ2 id = φ id := fun id L hL => by
    rcases cases2 id with ⟨_, g2, g3⟩ | ⟨k, g1, g2, g3⟩
    · exact ⟨by unfold lnOf at hL ⊢; rw [g3]; exact hL, g2⟩
    · rcases List.mem_append.1 g1 with g | g
      · obtain ⟨q1, q2⟩ := pinned _ g
        refine ⟨?_, g2.trans q1⟩
        unfold lnOf at hL q2 ⊢
        rw [g3]
        exact q2.trans hL
      · have := hw _ g
        simp only at this
        simp [lnOf, this] at hL
  have ok1 : ∀ b, okOf R.w0 R.ok0 φ S.heap w b → okOf R.w0 R.ok0 φ2 (backH (lend ++ new) H1 S.heap) w' b ∧ w'.heap[b]? = w.heap[b]? := fun b hb => by
    refine ⟨⟨hb.1, Nat.lt_of_lt_of_le hb.2.1 HR'.size, fun id pl q1 q2 q3 => ?_⟩, HR'.old b hb.2.1 (okmine b hb)⟩
    rcases cases2 id with ⟨_, g2, g3⟩ | ⟨k, g1, g2, g3⟩
    · rw [g3] at q1; rw [g2] at q2; exact hb.2.2 id pl q1 q2 q3
    · rw [g2] at q2
      rcases (HR'.own k pl (h1some _ g1) q2).2 with h | h
      · have := hb.2.1; omega
      · exact okmine b hb (q3 ▸ h.1)
  have ok2 : ∀ b, okOf w (okOf R.w0 R.ok0 φ S.heap w) φ' H1 w' b → okOf R.w0 R.ok0 φ2 (backH (lend ++ new) H1 S.heap) w' b := fun b hb => by
    refine ⟨?_, hb.2.1, fun id pl q1 q2 q3 => ?_⟩
    · rcases hb.1 with h | h
      · exact h.1
      · exact .inr (Nat.le_trans A.h.size h)
    · rcases cases2 id with ⟨_, g2, g3⟩ | ⟨k, g1, g2, g3⟩
      · rw [g3] at q1; rw [g2] at q2
        rcases hb.1 with h | h
        · exact h.2.2 id pl q1 q2 q3
        · have := (A.h.own id pl q1 q2).1; omega
      · rw [g2] at q2
        exact hb.2.2 k pl (h1some _ g1) q2 q3
  have ownOther : ∀ c pl, toK (lend ++ new) c = none → (S.heap c).isSome = true → φ c = some pl → ¬ Mine (lentH lend S.heap) (lentP lend φ) pl.b := fun c pl h1 h2 h3 hm => by
    obtain ⟨p, hp, pl', q1, q2⟩ := mine _ hm
    have := A.h.inj p.2 c pl' pl (hsome p hp) h2 q1 h3 q2
    rw [← this, toK_mem sd' (by simp [hp])] at h1
    cases h1
  refine ⟨v, _, _, φ2, rfl, k4, ⟨⟨fun id b hb => ?_, fun id id' pl pl' q1 q2 q3 q4 q5 => ?_, fun id pl q1 q2 => ?_, fun b hb hm => ?_, HR'.os.trans A.h.os, HR'.tape.trans A.h.tape, HR'.output.trans A.h.output, Nat.le_trans A.h.size HR'.size, A.h.ok0⟩, fun t => (A.env t).mono' ok1 hi, A.size, fun k hk hs => ?_⟩, ?_⟩
  · rcases cases2 id with ⟨g1, g2, g3⟩ | ⟨k, g1, g2, g3⟩
    · have hb' : S.heap id = some b := g3 ▸ hb
      refine (A.h.blk id b hb').mono ok1 hi g2 fun pl hpl => ?_
      exact HR'.old _ (A.h.own id pl (by rw [hb']; rfl) hpl).1 (ownOther id pl g1 (by rw [hb']; rfl) hpl)
    · have hb' : H1 k = some b := g3 ▸ hb
      have hp := k1 _ g1
      rw [show H1 (k, id).1 = some b from hb'] at hp
      exact (HR'.blk k b hb').row hp (fun b hb => ⟨ok2 b hb, rfl⟩) g2 fun _ _ => rfl
  · rcases cases2 id with ⟨g1, g2, g3⟩ | ⟨k, g1, g2, g3⟩ <;> rcases cases2 id' with ⟨g1', g2', g3'⟩ | ⟨k', g1', g2', g3'⟩ <;> simp only at q1 q2 <;> rw [g3] at q1 <;> rw [g3'] at q2 <;> rw [g2] at q3 <;> rw [g2'] at q4
    · exact A.h.inj id id' pl pl' q1 q2 q3 q4 q5
    · exfalso
      have hlt := (A.h.own id pl q1 q3).1
      rcases (HR'.own k' pl' q2 q4).2 with h | h
      · omega
      · exact ownOther id pl g1 q1 q3 (q5 ▸ h.1)
    · exfalso
      have hlt := (A.h.own id' pl' q2 q4).1
      rcases (HR'.own k pl q1 q3).2 with h | h
      · omega
      · exact ownOther id' pl' g1' q2 q4 (q5 ▸ h.1)
    · have := HR'.inj k k' pl pl' q1 q2 q3 q4 q5
      exact congrArg Prod.snd (N.fst _ g1 _ g1' this)
  · simp only at q1
    rcases cases2 id with ⟨g1, g2, g3⟩ | ⟨k, g1, g2, g3⟩
    · rw [g3] at q1; rw [g2] at q2
      obtain ⟨a, b⟩ := A.h.own id pl q1 q2
      exact ⟨Nat.lt_of_lt_of_le a HR'.size, b⟩
    · rw [g2] at q2
      obtain ⟨a, b⟩ := HR'.own k pl (h1some _ g1) q2
      refine ⟨a, ?_⟩
      rcases List.mem_append.1 g1 with g | g
      · rw [(pinned _ g).1] at q2
        exact (A.h.own id pl (hsome _ g) q2).2
      · have := N.n100 _ g
        rcases b with b | b
        · exact .inl (Nat.le_trans A.h.size b)
        · simp only at this; omega
  · have hm' : ¬ Mine (lentH lend S.heap) (lentP lend φ) b := fun h => by
      obtain ⟨p, hp, pl, q1, q2⟩ := mine b h
      rcases (A.h.own p.2 pl (hsome p hp) q1).2 with h | h
      · omega
      · exact hm (q2 ▸ h.1)
    rw [HR'.old b (Nat.lt_of_lt_of_le hb A.h.size) hm']
    exact A.h.old b hb hm
  · simp only at hs
    rcases cases2 k with ⟨g1, g2, g3⟩ | ⟨q, g1, g2, g3⟩
    · rw [g3] at hs
      obtain ⟨a, b⟩ := A.pin k hk hs
      refine ⟨g2.trans a, ?_⟩
      rw [← b]
      show (backH (lend ++ new) H1 S.heap k).map Blk.len = _
      rw [g3]; rfl
    · rcases List.mem_append.1 g1 with g | g
      · obtain ⟨p1, p2⟩ := pinned _ g
        obtain ⟨a, b⟩ := A.pin k hk (hsome _ g)
        refine ⟨(g2.trans p1).trans a, ?_⟩
        rw [← b, ← p2]
        show (backH (lend ++ new) H1 S.heap k).map Blk.len = _
        rw [g3]; rfl
      · have := N.c50 _ g
        simp only at this
        omega
  · refine hr.ren _ _ (fun b hb => ⟨ok2 b hb, rfl⟩) (fun id L hp hL => ?_) k3
    rw [List.any_eq_true] at hp
    obtain ⟨q, hq, hqe⟩ := hp
    have hqe : q.1 = id := by simpa using hqe
    subst hqe
    rw [toC_mem N.fst hq]
    have ht := toK_mem sd' hq
    refine ⟨?_, ?_⟩
    · show (backH (lend ++ new) H1 S.heap q.2).map Blk.len = some L
      unfold backH
      rw [ht]
      exact hL
    · rw [hφ2, ht]
theorem co_call {xs : List V} {rows : List (List V)} {e sz nid : Nat} {K : E → St → Prop} (h50 : 50 ≤ nid) (hf : FnO X f e sz xs rows) (h0 : S.heap nid = none) (hk : K (.os nid 0 rows.length) ⟨S.env, upd S.heap nid (some (.p e sz rows))⟩) : evCall X f (xs.map .v) S K := by
  refine call_of (lend := []) (new := [(100, nid)]) (Q := fun H r => H = upd noH 100 (some (.p e sz rows)) ∧ r = .os 100 0 rows.length) ?_ (by simp) (by simpa using h0) (fun x hx => ?_) ?_ ?_
  · simp [namesB, h50]
  · obtain ⟨y, _, rfl⟩ := List.mem_map.1 hx
    rfl
  · have e1 : (xs.map E.v).map (E.ren fun c => (toK [] c).getD 0) = xs.map E.v := by
      rw [List.map_map]
      rfl
    rw [e1]
    exact hf
  · rintro H1 r ⟨rfl, rfl⟩
    refine ⟨fun p hp => ?_, fun k hs => ?_, by simp [E.ids], ?_⟩
    · obtain rfl : p = (100, nid) := by simpa using hp
      simp only [upd_same]
      trivial
    · by_cases hk : k = 100
      · subst hk; exact ⟨nid, by simp⟩
      · rw [upd_ne _ _ _ hk] at hs; cases hs
    · have e1 : (E.os 100 0 rows.length).ren (toC ([] ++ [(100, nid)])) = .os nid 0 rows.length := by simp [E.ren, toC]
      have e2 : backH ([] ++ [(100, nid)]) (upd noH 100 (some (.p e sz rows))) S.heap = upd S.heap nid (some (.p e sz rows)) := by
        funext c
        by_cases hc : c = nid
        · subst hc; simp [backH, toK, upd_same]
        · have : ¬ nid = c := fun h => hc h.symm
          simp [backH, toK, this, upd_ne _ _ _ hc]
      rw [e1, e2]
      exact hk
end
end Go.Proofs.YtmjkhbjfacfmcaaGreatDoor.VX
end
