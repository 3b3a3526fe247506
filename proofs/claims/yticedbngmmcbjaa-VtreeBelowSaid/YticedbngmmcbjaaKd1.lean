/- For every vtree that the reference finds valid, the blocks below an inner node are those below its left child followed by those below its right child; no condition. -/
import Derived.Test.YticedbngmmcbjaaKd0
import Derived.Tactics
import Derived.LoopN
import Derived.Orders
import Derived.Handed
import Derived.SizedLaws
import Derived.ChangeArms
import Derived.RowKit
set_option linter.all false
namespace Go.Proofs.AM
open Go
set_option linter.unusedSimpArgs false
set_option linter.unusedVariables false

/-- A frame. -/
structure FrR (μ : Pl) (ntmps : Nat) (fr : Fr) (a : Act) : Prop where
  tmp : ∀ t, VR μ (fr.ev (.tmp t)) (a.tmps.getD t undef)
  size : a.tmps.size = ntmps
  defers : a.defers = []

section
variable {P : Program} {M : Old} {base : Nat} {μ : Pl} {A : AH} {w : World}

theorem FrR.mono {μ ν : Pl} (hle : μ.le ν) {n : Nat} {fr : Fr} {a : Act} (h : FrR μ n fr a) : FrR ν n fr a := ⟨fun t => (h.tmp t).mono hle, h.size, h.defers⟩

theorem FrR.ev {n : Nat} {fr : Fr} {a : Act} (h : FrR μ n fr a) {x : Operand} (hx : okX x = true) : VR μ (fr.ev x) (a.eval x) := by
  cases x with
  | tmp t => exact h.tmp t
  | const v => exact constV_VR hx
  | global g => exact .ptr ⟨rfl, rfl, rfl, .inl ⟨by show (2 * g + 1) % 2 = 1; omega, by show g = (2 * g + 1) / 2; omega⟩⟩
  | func f => exact .func _ #[] #[] #[] #[] rfl (fun i h => absurd h (by simp)) rfl (fun i h => absurd h (by simp))

theorem FrR.put {n : Nat} {fr : Fr} {a : Act} (h : FrR μ n fr a) {d : Option Nat} (hd : ∀ t, d = some t → t < n) {v c : Value} (hv : VR μ v c) : FrR μ n (putD d v fr) (a.put d c) := by
  cases d with
  | none => exact h
  | some d =>
    have hlt := hd d rfl
    refine ⟨fun t => ?_, by simp [Act.put, h.size], by simp [Act.put, h.defers]⟩
    simp only [putD, Act.put, Fr.ev, T.get_set]
    by_cases e : t = d
    · subst e
      rw [if_pos rfl]
      simp only [evTmp]
      have : (a.tmps.setIfInBounds t c).getD t undef = c := by
        have : t < a.tmps.size := by rw [h.size]; exact hlt
        simp [Array.getD, this]
      rw [this]; exact hv
    · rw [if_neg e]
      have : (a.tmps.setIfInBounds d c).getD t undef = a.tmps.getD t undef := by
        rw [Array.getD_eq_getD_getElem?, Array.getD_eq_getD_getElem?, Array.getElem?_setIfInBounds, if_neg (fun h => e h.symm)]
      rw [this]
      exact h.tmp t

theorem bool_VR {v c : Value} (h : VR μ v c) (b : Bool) : v = .bool b ↔ c = .bool b := by
  cases h <;> simp [emptyCut]

/-- The guards agree. -/
theorem wants_eq {n : Nat} {fr : Fr} {a : Act} (h : FrR μ n fr a) {ops : Array Oper} {o : Oper} {g : Option (Nat × Bool)}
    (hg : gOf ops o = some g) (hlt : ∀ t b, g = some (t, b) → t < n) : wants g fr = Region.wanted o (yielded ops a.tmps) := by
  unfold gOf at hg
  unfold Region.wanted
  cases ho : o.guard with
  | none => rw [ho] at hg; simp only [Option.some.injEq] at hg; subst hg; rfl
  | some jb =>
    obtain ⟨j, b⟩ := jb
    rw [ho] at hg
    simp only at hg
    cases hj : ops[j]? with
    | none => rw [hj] at hg; cases hg
    | some oj =>
      rw [hj] at hg
      simp only at hg
      cases hd : oj.dst with
      | none => rw [hd] at hg; cases hg
      | some d =>
        rw [hd] at hg
        simp only [Option.some.injEq] at hg
        subst hg
        have hlt' : d < a.tmps.size := by rw [h.size]; exact hlt d b rfl
        simp only [wants, yielded, hj, hd, Option.bind_some, Array.getElem?_eq_getElem hlt']
        have ht := h.tmp d
        have hget : a.tmps.getD d undef = a.tmps[d] := by simp [Array.getD, hlt']
        rw [hget] at ht
        simp only [Fr.ev] at ht
        cases hf : fr.get d with
        | none =>
          rw [hf] at ht
          simp only [evTmp] at ht
          have : ∀ b, a.tmps[d] ≠ .bool b := fun b hb => by rw [hb] at ht; have := (bool_VR ht b).2 rfl; simp [undef] at this
          simp only [isB]
          split
          · rename_i c hc; exact absurd (Option.some.inj hc) (this c)
          · rfl
        | some v =>
          rw [hf] at ht
          simp only [evTmp] at ht
          cases hv : v with
          | bool c =>
            rw [hv] at ht
            have := (bool_VR ht c).1 rfl
            rw [this]
            simp only [isB]
            cases c <;> cases b <;> rfl
          | _ =>
            rw [hv] at ht
            simp only [isB]
            split
            · rename_i c hc
              have := (bool_VR ht c).2 (Option.some.inj hc)
              cases this
            · rfl

/-- What is asked of calls. -/
def CallS (P : Program) (M : Old) (base : Nat) (cf : CallF) : Prop :=
  ∀ (g : Nat) (args : List Value) (A : AH) (v : Value) (A' : AH) (μ : Pl) (w : World) (cargs : Array Value), cf g args A = some (v, A') → Sim P M base μ A w →
    (∀ i, A.next ≤ i → i < A'.next → μ i = none) → VRL μ args cargs.toList →
    (∃ fn, P.funcs[g]? = some fn ∧ fn.body.isSome = true ∧ (fn.name == "runtime.NumGoroutine") = false) ∧ A.next ≤ A'.next ∧
    Calls P g cargs w fun e w' => ∃ μ' c, e = .returned c ∧ VR μ' v c ∧ Step P M base μ A w μ' A' w'

theorem callR_sound {ρ σ : Operand → Value} {o : Oper} {f : Operand} {args : Array Operand} {ts : Array TypeId} (ho : o.op = .call { callee := .value f, args, argTypes := ts }) (hf : VR μ (ρ f) (σ f)) (ha : ∀ x ∈ args.toList, VR μ (ρ x) (σ x)) {g : Nat} {avs : List Value}
    (h : callR f args.toList ρ = some (g, avs)) : ∃ cargs : Array Value, VRL μ avs cargs.toList ∧ ∀ w fn, P.funcs[g]? = some fn → fn.body.isSome = true → (fn.name == "runtime.NumGoroutine") = false → (execOp σ o).run P w = .ok (.enter g cargs) w := by
  unfold callR at h
  cases e : ρ f with
  | func fn first captured =>
    rw [e] at h hf
    cases fn with
    | func g' =>
      simp only [Option.some.injEq, Prod.mk.injEq] at h
      obtain ⟨rfl, rfl⟩ := h
      generalize hs : σ f = sf at hf
      cases hf with
      | func _ _ bs _ ds h1 h2 h3 h4 =>
        refine ⟨bs ++ args.map σ ++ ds, ?_, fun w fn hfn hb hn => ?_⟩
        · simp only [Array.toList_append, Array.toList_map]
          exact ((VRL.ofArr h1 h2).append (VRL.map ha)).append (VRL.ofArr h3 h4)
        · have hb' : fn.body.isNone = false := by cases hbb : fn.body <;> simp_all
          have hn2 : fn.name ≠ "runtime.NumGoroutine" := by simpa using hn
          have hb2 : fn.body ≠ none := fun e => by rw [e] at hb; cases hb
          simp [execOp, ho, hs, resolve, Deferred.ofValue, invoke, callFunc, hfn, hn2, hb2, Array.append_assoc]
    | _ => simp at h
  | _ => rw [e] at h; simp at h

theorem cond_inv {α : Type} {c : Bool} {x : Option α} {y : α} (h : cond c x none = some y) : c = true ∧ x = some y := by
  cases c with
  | false => cases h
  | true => exact ⟨rfl, h⟩

theorem prepOp_call {op : Op} {f : Operand} {args : List Operand} (h : prepOp P op = some (.call f args)) : ∃ (cargs : Array Operand) (ts : Array TypeId), op = .call { callee := .value f, args := cargs, argTypes := ts } ∧ args = cargs.toList := by
  cases op with
  | call c =>
    obtain ⟨callee, as, ts⟩ := c
    cases callee with
    | value g =>
      simp only [prepOp, Option.some.injEq, IOp.call.injEq] at h
      obtain ⟨rfl, rfl⟩ := h
      exact ⟨as, ts, rfl, rfl⟩
    | invoke r m => simp [prepOp] at h
    | builtin b =>
      exfalso
      simp only [prepOp, prepBuiltin] at h
      repeat' first
        | (simp at h; done)
        | (split at h)
        | (replace h := (cond_inv h).2)
  | unOp op t x => cases op <;> simp [prepOp] at h
  | binOp op xt x y yt =>
    exfalso
    simp only [prepOp, prepBin] at h
    split at h
    · simp at h
    · revert h; cases isSh op <;> simp
    · simp at h
    · split at h
      · unfold prepEq at h
        repeat' first
          | (simp at h; done)
          | (split at h)
          | (replace h := (cond_inv h).2)
      · simp at h
  | alloc e =>
    exfalso
    simp only [prepOp, Option.bind_eq_some_iff] at h
    obtain ⟨z, _, h⟩ := h
    replace h := (cond_inv h).2
    simp at h
  | build t parts =>
    exfalso
    simp only [prepOp, Option.bind_eq_some_iff] at h
    obtain ⟨z, _, h⟩ := h
    repeat' first
      | (simp at h; done)
      | (split at h)
  | convert src dst x =>
    exfalso
    simp only [prepOp, prepConv] at h
    repeat' first
      | (simp at h; done)
      | (split at h)
  | _ =>
    exfalso
    simp only [prepOp] at h
    repeat' first
      | (simp at h; done)
      | (split at h)
      | (replace h := (cond_inv h).2)
      | cases h

/-- One operation, in the walk. -/
theorem op_wpE {cf : CallF} (hcf : CallS P M base cf) {ρ : Env} {a : Act} (S : Sim P M base μ A w) {o : Oper} {q : IOp} (hq : prepOp P o.op = some q) (hE : ∀ x ∈ o.op.operands.toList, VR μ (ρ x) (a.eval x)) {v : Value} {A' : AH}
    (h : opR q M cf ρ A = some (v, A')) (hfresh : ∀ i, A.next ≤ i → i < A'.next → μ i = none) {K : Act → World → Prop} {Q : Exit → Act → World → Prop}
    (hK : ∀ μ' c w', VR μ' v c → Step P M base μ A w μ' A' w' → K (a.put o.dst c) w') : A.next ≤ A'.next ∧ o.wp P a w K Q := by
  cases q with
  | p q =>
    simp only [opR, opP] at h
    cases hp : pureR q ρ with
    | none => rw [hp] at h; cases h
    | some u =>
      rw [hp] at h
      simp only [andP, Option.some.injEq, Prod.mk.injEq] at h
      obtain ⟨rfl, rfl⟩ := h
      obtain ⟨c, h1, h2⟩ := pure_sound (P := P) o q hq hE hp
      refine ⟨Nat.le_refl _, ?_⟩
      unfold Oper.wp
      rw [h2 w]
      exact hK μ c w h1 (.refl S)
  | r q =>
    simp only [opR, opRd] at h
    cases hp : readR q M ρ A with
    | none => rw [hp] at h; cases h
    | some u =>
      rw [hp] at h
      simp only [andP, Option.some.injEq, Prod.mk.injEq] at h
      obtain ⟨rfl, rfl⟩ := h
      obtain ⟨c, h1, h2⟩ := read_sound S o q hq hE hp
      refine ⟨Nat.le_refl _, ?_⟩
      unfold Oper.wp
      rw [h2]
      exact hK μ c w h1 (.refl S)
  | n q =>
    simp only [opR, opN] at h
    cases hp : newR q ρ with
    | none => rw [hp] at h; cases h
    | some bm =>
      obtain ⟨b, mk⟩ := bm
      rw [hp] at h
      simp only [andN, Option.some.injEq, Prod.mk.injEq] at h
      obtain ⟨rfl, rfl⟩ := h
      obtain ⟨c, obj, h1, h2, h3⟩ := new_sound o q hq hE hp w
      have hf0 : μ A.next = none := hfresh A.next (Nat.le_refl _) (by simp [AH.push])
      obtain ⟨h4, h5⟩ := h3 (μ.add A.next (w.heap.size, 0)) A.next (w.heap.size, 0) (Pl.le_add hf0) (by simp [Pl.add]) rfl
      refine ⟨by simp [AH.push], ?_⟩
      unfold Oper.wp
      rw [h1]
      exact hK _ c _ h4 (step_push S hf0 (p := (w.heap.size, 0)) rfl rfl rfl rfl rfl h5)
  | e q =>
    simp only [opR, opE] at h
    obtain ⟨μ', c, w', h1, h2, h3⟩ := eff_sound S (fun hnx => hfresh A.next (Nat.le_refl _) hnx) o q hq hE h
    refine ⟨h3.nxt, ?_⟩
    unfold Oper.wp
    rcases h2 with h2 | ⟨rfl, h2⟩
    · rw [h2]; exact hK μ' c w' h1 h3
    · rw [h2]; exact hK μ' undef w' h1 h3
  | call f args =>
    simp only [opR, opC] at h
    cases hp : callR f args ρ with
    | none => rw [hp] at h; cases h
    | some ga =>
      obtain ⟨g, avs⟩ := ga
      rw [hp] at h
      simp only [andC] at h
      obtain ⟨cargs, ts, ho, he⟩ := prepOp_call hq
      subst he
      obtain ⟨as, h1, h2⟩ := callR_sound (P := P) (ρ := ρ) (σ := a.eval) ho (hE f (by rw [ho]; simp [Op.operands, Call.operands])) (fun y hy => hE y (by rw [ho]; simp only [Op.operands, Call.operands]; simp [hy])) hp
      obtain ⟨⟨fn, f1, f2, f3⟩, hnx, hc⟩ := hcf g avs A v A' μ w as h S hfresh h1
      refine ⟨hnx, ?_⟩
      unfold Oper.wp
      rw [h2 w fn f1 f2 f3, Oper.upon_enter]
      refine Calls.mono hc fun e w' he => ?_
      obtain ⟨μ', c, rfl, g1, g2⟩ := he
      exact hK μ' c w' g1 g2

theorem op_wp {cf : CallF} (hcf : CallS P M base cf) {n : Nat} {fr : Fr} {a : Act} (S : Sim P M base μ A w) (hF : FrR μ n fr a) {o : Oper} {q : IOp} (hq : prepOp P o.op = some q) (hx : ∀ x ∈ o.op.operands.toList, okX x = true) {v : Value} {A' : AH}
    (h : opR q M cf fr.ev A = some (v, A')) (hfresh : ∀ i, A.next ≤ i → i < A'.next → μ i = none) {K : Act → World → Prop} {Q : Exit → Act → World → Prop}
    (hK : ∀ μ' c w', VR μ' v c → Step P M base μ A w μ' A' w' → K (a.put o.dst c) w') : A.next ≤ A'.next ∧ o.wp P a w K Q :=
  op_wpE hcf S hq (fun x hxm => hF.ev (hx x hxm)) h hfresh hK
end
end Go.Proofs.AM

namespace Go.Proofs.AM
open Go
set_option linter.unusedSimpArgs false
set_option linter.unusedVariables false

theorem allB_mem {α : Type} {f : α → Bool} : ∀ {l : List α}, allB f l = true → ∀ a ∈ l, f a = true
  | [], _, a, h => by cases h
  | b :: l, h, a, ha => by
    simp only [allB] at h
    cases hb : f b with
    | false => rw [hb] at h; cases h
    | true =>
      rw [hb, cond_true] at h
      rcases List.mem_cons.1 ha with rfl | ha
      · exact hb
      · exact allB_mem h a ha

/-- An operation, made ready. -/
structure Prepd (P : Program) (n : Nat) (all : Array Oper) (o : Oper) (i : Iop) : Prop where
  dst : i.dst = o.dst
  op : prepOp P o.op = some i.op
  g : gOf all o = some i.g
  ok : ∀ x ∈ o.op.operands.toList, okX x = true
  lt : ∀ t, o.dst = some t → t < n
  glt : ∀ t b, i.g = some (t, b) → t < n

inductive All2 {α β : Type} (R : α → β → Prop) : List α → List β → Prop where
  | nil : All2 R [] []
  | cons {a : α} {b : β} {l : List α} {m : List β} (h : R a b) (t : All2 R l m) : All2 R (a :: l) (b :: m)

theorem prepOps_spec {P : Program} {n : Nat} {all : Array Oper} : ∀ {l : List Oper} {m : List Iop}, prepOps P n all l = some m → All2 (Prepd P n all) l m
  | [], m, h => by simp only [prepOps, Option.some.injEq] at h; subst h; exact .nil
  | o :: l, m, h => by
    simp only [prepOps] at h
    split at h
    · rename_i i g r h1 h2 h3
      obtain ⟨k1, h⟩ := cond_inv h
      obtain ⟨k2, h⟩ := cond_inv h
      obtain ⟨k3, h⟩ := cond_inv h
      simp only [Option.some.injEq] at h
      subst h
      refine .cons ⟨rfl, h1, h2, allB_mem k1, fun t ht => ?_, fun t b ht => ?_⟩ (prepOps_spec h3)
      · have := allB_mem k2 t (by rw [ht]; simp)
        exact Nat.le_of_ble_eq_true this
      · simp only at ht
        have := allB_mem k3 t (by rw [ht]; simp)
        exact Nat.le_of_ble_eq_true this
    · simp at h

section
variable {P : Program} {M : Old} {base : Nat} {n : Nat}

/-- What a walk leaves behind: the abstract frame and heap, the concrete ones. -/
def Left (P : Program) (M : Old) (base : Nat) (n : Nat) (μ : Pl) (A : AH) (w : World) (fr' : Fr) (A' : AH) (a' : Act) (w' : World) : Prop :=
  ∃ μ', FrR μ' n fr' a' ∧ Step P M base μ A w μ' A' w'

/-- Nothing lies beyond the blocks made. -/
def AH.WF (A : AH) : Prop := ∀ i, A.next ≤ i → ¬ (A.blk i).live
def Grow (A A' : AH) : Prop := A.next ≤ A'.next ∧ (A.WF → A'.WF)
theorem Grow.refl (A : AH) : Grow A A := ⟨Nat.le_refl _, id⟩
theorem Grow.trans {A B C : AH} (h : Grow A B) (k : Grow B C) : Grow A C := ⟨Nat.le_trans h.1 k.1, fun w => k.2 (h.2 w)⟩
theorem Grow.put {A : AH} {i : Nat} (hl : (A.blk i).live) (b : Blk) : Grow A (A.put i b) := by
  refine ⟨Nat.le_refl _, fun w j hj h => ?_⟩
  rw [blk_put] at h
  by_cases e : j = i
  · subst e; exact w j hj hl
  · rw [if_neg e] at h; exact w j hj h
theorem Grow.push (A : AH) (b : Blk) : Grow A (A.push b) := by
  refine ⟨by simp [AH.push], fun w j hj h => ?_⟩
  have h1 : A.next + 1 ≤ j := hj
  rw [blk_push, if_neg (by omega)] at h
  exact w j (by omega) h

/-- Calls make blocks, they take none away. -/
def CallMono (cf : CallF) : Prop := ∀ (g : Nat) (args : List Value) (A : AH) (v : Value) (A' : AH), cf g args A = some (v, A') → Grow A A'

theorem store_next {A A' : AH} {a : Addr} {vs : List Value} (h : A.store a vs = some A') : Grow A A' := by
  unfold AH.store at h
  split at h
  · cases h
  · cases hc : Nat.beq (a.block % 2) 0 with
    | false => rw [hc] at h; cases h
    | true =>
      rw [hc, cond_true] at h
      split at h
      · rename_i hb
        have := (cond_inv (cond_inv h).2).2
        simp only [Option.some.injEq] at this
        subst this
        exact .put (by rw [hb]; trivial) _
      · cases h

theorem append_next {size : Nat} {e : TypeId} {x y r : Value} {A A' : AH} (h : appendA M size e x y A = some (r, A')) : Grow A A' := by
  unfold appendA at h
  split at h
  · cases h
  · split at h
    · replace h := (cond_inv h).2
      revert h
      cases Nat.beq _ UNK with
      | true =>
        intro h
        rw [cond_true] at h
        split at h
        · cases h
        · split at h
          · simp only [Option.some.injEq, Prod.mk.injEq] at h; rw [← h.2]; exact .refl _
          · split at h
            · replace h := (cond_inv h).2
              split at h
              · rename_i hb
                replace h := (cond_inv (cond_inv h).2).2
                split at h
                · replace h := (cond_inv h).2
                  simp only [Option.some.injEq, Prod.mk.injEq] at h
                  rw [← h.2]; exact .trans (.put (by rw [hb]; trivial) _) (.push _ _)
                · cases h
              · cases h
            · cases h
      | false =>
        intro h
        rw [cond_false] at h
        revert h
        cases Nat.ble _ _ with
        | true =>
          intro h
          rw [cond_true] at h
          split at h
          · simp only [Option.some.injEq, Prod.mk.injEq] at h; rw [← h.2]; exact .refl _
          · split at h
            · rename_i hst
              simp only [Option.some.injEq, Prod.mk.injEq] at h; rw [← h.2]; exact store_next hst
            · cases h
        | false =>
          intro h
          rw [cond_false] at h
          split at h
          · replace h := (cond_inv h).2
            simp only [Option.some.injEq, Prod.mk.injEq] at h
            rw [← h.2]; exact .push _ _
          · cases h
    · cases h

theorem eff_next {q : EOp} {ρ : Env} {A A' : AH} {v : Value} (h : effR q M ρ A = some (v, A')) : Grow A A' := by
  cases q with
  | store n x y =>
    simp only [effR, effR_store] at h
    split at h
    · replace h := (cond_inv h).2
      split at h
      · rename_i hst
        simp only [Option.some.injEq, Prod.mk.injEq] at h; rw [← h.2]; exact store_next hst
      · cases h
    · cases h
  | mapUpdate kt m k y =>
    simp only [effR, effR_mapUpdate] at h
    split at h
    · replace h := (cond_inv h).2
      split at h
      · rename_i hb
        replace h := (cond_inv h).2
        split at h
        · simp only [Option.some.injEq, Prod.mk.injEq] at h; rw [← h.2]; exact .put (by rw [hb]; trivial) _
        · cases h
      · cases h
    · cases h
  | append size e x y => exact append_next h
  | copy size x y =>
    simp only [effR, effR_copy] at h
    split at h
    · split at h
      · split at h
        · simp only [Option.some.injEq, Prod.mk.injEq] at h; rw [← h.2]; exact .refl _
        · split at h
          · rename_i hst
            simp only [Option.some.injEq, Prod.mk.injEq] at h; rw [← h.2]; exact store_next hst
          · cases h
      · cases h
    · cases h
  | clearSlice zs x =>
    simp only [effR, effR_clearSlice] at h
    split at h
    · simp only [Option.some.injEq, Prod.mk.injEq] at h; rw [← h.2]; exact .refl _
    · split at h
      · simp only [Option.some.injEq, Prod.mk.injEq] at h; rw [← h.2]; exact .refl _
      · split at h
        · rename_i hst
          simp only [Option.some.injEq, Prod.mk.injEq] at h; rw [← h.2]; exact store_next hst
        · cases h
    · cases h

theorem op_next {cf : CallF} (hm : CallMono cf) {q : IOp} {ρ : Env} {A A' : AH} {v : Value} (h : opR q M cf ρ A = some (v, A')) : Grow A A' := by
  cases q with
  | p q => simp only [opR, opP, andP] at h; split at h <;> simp at h; rw [← h.2]; exact .refl _
  | r q => simp only [opR, opRd, andP] at h; split at h <;> simp at h; rw [← h.2]; exact .refl _
  | n q => simp only [opR, opN, andN] at h; split at h <;> simp at h; rw [← h.2]; exact .push _ _
  | e q => exact eff_next h
  | call f args =>
    simp only [opR, opC, andC] at h
    split at h
    · exact hm _ _ _ _ _ h
    · cases h

theorem runOps_next {cf : CallF} (hm : CallMono cf) : ∀ {m : List Iop} {fr fr' : Fr} {A A' : AH}, runOps M cf m fr A = some (fr', A') → Grow A A'
  | [], fr, fr', A, A', h => by simp only [runOps, Option.some.injEq, Prod.mk.injEq] at h; rw [← h.2]; exact .refl _
  | i :: m, fr, fr', A, A', h => by
    simp only [runOps, run1] at h
    cases hb : wants i.g fr with
    | false => rw [hb, cond_false] at h; exact runOps_next hm h
    | true =>
      rw [hb, cond_true] at h
      cases ho : opR i.op M cf fr.ev A with
      | none => rw [ho] at h; cases h
      | some vA =>
        obtain ⟨v, A1⟩ := vA
        rw [ho] at h
        simp only [contV] at h
        exact .trans (op_next hm ho) (runOps_next hm h)

/-- A region that draws no order. -/
theorem ops_wp {cf : CallF} (hm : CallMono cf) (hcf : CallS P M base cf) {all : Array Oper} {Q : Exit → Act → World → Prop} {fr' : Fr} {A' : AH} : ∀ {l : List Oper} {m : List Iop}, All2 (Prepd P n all) l m → ∀ {fr : Fr} {A : AH} {μ : Pl} {a : Act} {w : World},
    runOps M cf m fr A = some (fr', A') → Sim P M base μ A w → FrR μ n fr a → (∀ i, A.next ≤ i → i < A'.next → μ i = none) →
    (∀ a' w', Left P M base n μ A w fr' A' a' w' → Q .normal a' w') → wpList P all Q l a w := by
  intro l m hl
  induction hl with
  | nil =>
    intro fr A μ a w h S hF hfresh hQ
    simp only [runOps, Option.some.injEq, Prod.mk.injEq] at h
    obtain ⟨rfl, rfl⟩ := h
    exact hQ a w ⟨μ, hF, .refl S⟩
  | @cons o i l m hp hl ih =>
    intro fr A μ a w h S hF hfresh hQ
    simp only [runOps, run1] at h
    have hw := wants_eq hF hp.g hp.glt
    cases hb : wants i.g fr with
    | false =>
      rw [hb, cond_false] at h
      rw [hb] at hw
      have hF' : FrR μ n (putD i.dst undef fr) (a.put o.dst undef) := by rw [hp.dst]; exact hF.put hp.lt .undef
      have h2 := ih h S hF' hfresh hQ
      simp only [wpList, ← hw]
      simpa using h2
    | true =>
      rw [hb, cond_true] at h
      rw [hb] at hw
      cases ho : opR i.op M cf fr.ev A with
      | none => rw [ho] at h; cases h
      | some vA =>
        obtain ⟨v, A1⟩ := vA
        rw [ho] at h
        simp only [contV] at h
        have hn1 := (op_next hm ho).1
        have hn2 := (runOps_next hm h).1
        simp only [wpList, ← hw, if_true]
        refine .inl (op_wp hcf S hF hp.op hp.ok ho (fun j h1 h2 => hfresh j h1 (by omega)) fun μ1 c w1 hv hst => ?_).2
        have hF1 : FrR μ1 n (putD i.dst v fr) (a.put o.dst c) := by rw [hp.dst]; exact (hF.mono hst.ext).put hp.lt hv
        refine ih h hst.sim hF1 (fun j h1 h2 => ?_) fun a' w' ⟨μ2, g1, g2⟩ => hQ a' w' ⟨μ2, g1, hst.trans g2⟩
        cases hj : μ1 j with
        | none => rfl
        | some p =>
          rcases hst.dom j p hj with h3 | h3
          · rw [hfresh j (by omega) h2] at h3; cases h3
          · omega
end
end Go.Proofs.AM

namespace Go.Proofs.AM
open Go
set_option linter.unusedSimpArgs false
set_option linter.unusedVariables false

section
variable {P : Program} {M : Old} {base : Nat} {n : Nat} {μ : Pl} {A : AH} {w : World}

theorem run_mapM_nil {α β : Type} (f : α → Sem β) (w : World) : (([] : List α).mapM f).run P w = .ok [] w := by simp

def resF (tmps : Array Value) : ResultVar → Sem Value
  | .tmp t => pure (tmps.getD t undef)
  | .cell a t => do loadVar t (← asAddr (tmps.getD a undef))

theorem results_eq (fn : Func) (tmps : Array Value) : results fn tmps = (do
  let vs ← fn.results.mapM (resF tmps)
  pure (if h : vs.size = 1 then vs[0] else .tuple vs)) := rfl

theorem res_list (S : Sim P M base μ A w) {fr : Fr} {a : Act} (hF : FrR μ n fr a) : ∀ {l : List ResultVar} {rs : List Res} {vs : List Value}, prepRes P l = some rs → resOf M fr A rs = some vs → ∃ cs, VRL μ vs cs ∧ (l.mapM (resF a.tmps)).run P w = .ok cs w
  | [], rs, vs, h1, h2 => by
    simp only [prepRes, Option.some.injEq] at h1
    subst h1
    simp only [resOf, Option.some.injEq] at h2
    subst h2
    exact ⟨[], .nil, by simp⟩
  | .tmp t :: l, rs, vs, h1, h2 => by
    simp only [prepRes] at h1
    split at h1
    · rename_i r hr
      simp only [Option.some.injEq] at h1
      subst h1
      simp only [resOf] at h2
      split at h2
      · rename_i vr hvr
        simp only [Option.some.injEq] at h2
        subst h2
        obtain ⟨cs, g1, g2⟩ := res_list S hF hr hvr
        refine ⟨a.tmps.getD t undef :: cs, .cons (hF.tmp t) g1, ?_⟩
        simp [List.mapM_cons, resF, g2]
      · cases h2
    · cases h1
  | .cell t ty :: l, rs, vs, h1, h2 => by
    simp only [prepRes] at h1
    split at h1
    · rename_i sz r ha hs hr
      simp only [Option.some.injEq] at h1
      subst h1
      simp only [resOf] at h2
      split at h2
      · rename_i ad had
        split at h2
        · rename_i cl hcl
          split at h2
          · rename_i vr hvr
            simp only [Option.some.injEq] at h2
            subst h2
            obtain ⟨cs, g1, g2⟩ := res_list S hF hr hvr
            have ht := hF.tmp t
            rw [had] at ht
            generalize hsx : a.tmps.getD t undef = sx at ht
            cases ht with
            | ptr hc =>
              obtain ⟨ds, k1, k2⟩ := S.loadC hc hcl
              refine ⟨.agg ds.toArray :: cs, .cons (.mkAgg (by simpa using k1)) g1, ?_⟩
              simp only [List.mapM_cons, resF, hsx, asAddr, Sem.run_bind, Sem.run_pure, Result.andThen_ok, loadVar, run_isAgg ha, run_sizeOf hs, k2, g2, if_true]
          · cases h2
        · cases h2
      · cases h2
    · simp at h1

theorem res_sound (S : Sim P M base μ A w) {fr : Fr} {a : Act} (hF : FrR μ n fr a) {fn : Func} {rs : List Res} {vs : List Value} (h1 : prepRes P fn.results.toList = some rs) (h2 : resOf M fr A rs = some vs) : ∃ c, VR μ (resV vs) c ∧ (results fn a.tmps).run P w = .ok c w := by
  obtain ⟨cs, g1, g2⟩ := res_list S hF h1 h2
  have hr : (fn.results.mapM (resF a.tmps)).run P w = .ok cs.toArray w := by
    rw [Array.mapM_eq_mapM_toList, Sem.run_map, g2]
    rfl
  rw [results_eq]
  simp only [Sem.run_bind, hr, Result.andThen_ok, Sem.run_pure]
  refine ⟨_, ?_, rfl⟩
  match vs, g1 with
  | [], g1 => rw [g1.of_nil]; exact .mkTuple .nil
  | [v], g1 =>
    obtain ⟨c, r, rfl, hv, hl⟩ := g1.uncons
    rw [hl.of_nil]
    simpa [resV] using hv
  | v :: u :: l, g1 =>
    have hn : ¬ cs.toArray.size = 1 := by have := g1.1; simp at this ⊢; omega
    rw [dif_neg hn]
    exact .mkTuple (by simpa using g1)
end
end Go.Proofs.AM

namespace Go.Proofs.AM
open Go
set_option linter.unusedSimpArgs false
set_option linter.unusedVariables false

def OrcMono (s : List Value → AH → Option (Value × AH)) : Prop := ∀ (args : List Value) (A : AH) (v : Value) (A' : AH), s args A = some (v, A') → Grow A A'
def ExMono (ex : IC → Code_) : Prop := ∀ (c : IC) (fr : Fr) (A : AH) (x : Ex) (fr' : Fr) (A' : AH), ex c fr A = some (x, fr', A') → Grow A A'

section
variable {M : Old} {F : Tbl}

theorem callW_mono (hF : ∀ g s, F g = some (.orc s) → OrcMono s) {ex : IC → Code_} (hx : ExMono ex) : CallMono (callW M F ex) := by
  intro g args A v A' h
  unfold callW at h
  cases hg : F g with
  | none => rw [hg] at h; cases h
  | some e =>
    rw [hg] at h
    cases e with
    | orc s => exact hF g s hg args A v A' h
    | code fn =>
      simp only [enterE, enterF] at h
      replace h := (cond_inv h).2
      cases he : ex fn.body (T.setL .nil 0 args) A with
      | none => rw [he] at h; cases h
      | some r =>
        obtain ⟨x, fr', A1⟩ := r
        have := hx _ _ _ _ _ _ he
        rw [he] at h
        have fin : leaveF2 A1 (resOf M fr' A1 fn.results) = some (v, A') → Grow A A' := by
          intro h
          cases hr : resOf M fr' A1 fn.results with
          | none => rw [hr] at h; cases h
          | some l =>
            rw [hr] at h
            simp only [leaveF2, Option.some.injEq, Prod.mk.injEq] at h
            rw [← h.2]; exact this
        cases x with
        | exit i => simp [leaveF] at h
        | normal => exact fin h
        | ret => exact fin h

theorem runDrawn_next {cf : CallF} (hm : CallMono cf) : ∀ {m : List Iop} {fr fr' : Fr} {A A' : AH} {hist : List AH} {j : Nat} {pend : List Pend}, runDrawn M cf m fr A hist j pend = some (fr', A') → Grow A A'
  | [], fr, fr', A, A', hist, j, pend, h => by simp only [runDrawn, Option.some.injEq, Prod.mk.injEq] at h; rw [← h.2]; exact Grow.refl _
  | i :: m, fr, fr', A, A', hist, j, pend, h => by
    simp only [runDrawn] at h
    cases hb : wants i.g fr with
    | false =>
      rw [hb, cond_false] at h
      revert h
      cases i.op.eff with
      | true =>
        intro h
        rw [cond_true] at h
        simp only [dE] at h
        exact runDrawn_next hm (cond_inv h).2
      | false =>
        intro h
        exact runDrawn_next hm h
    | true =>
      rw [hb, cond_true] at h
      revert h
      cases hq : i.op with
      | p q =>
        intro h
        simp only [drawn1] at h
        cases hr : pureR q fr.ev with
        | none => rw [hr] at h; cases h
        | some v => rw [hr] at h; exact runDrawn_next hm h
      | r q =>
        intro h
        simp only [drawn1] at h
        cases hr : readR q M fr.ev A with
        | none => rw [hr] at h; cases h
        | some v => rw [hr] at h; simp only [dR] at h; exact runDrawn_next hm (cond_inv h).2
      | n q =>
        intro h
        simp only [drawn1] at h
        cases hr : newR q fr.ev with
        | none => rw [hr] at h; cases h
        | some v =>
          obtain ⟨b, mk⟩ := v
          rw [hr] at h
          simp only [dN] at h
          exact .trans (.push _ _) (runDrawn_next hm h)
      | e q =>
        intro h
        simp only [drawn1] at h
        cases hr : effR q M fr.ev A with
        | none => rw [hr] at h; cases h
        | some v =>
          obtain ⟨v, A1⟩ := v
          rw [hr] at h
          simp only [dE] at h
          exact Grow.trans (eff_next hr) (runDrawn_next hm (cond_inv h).2)
      | call f args =>
        intro h
        simp only [drawn1] at h
        cases hr : andC cf A (callR f args fr.ev) with
        | none => rw [hr] at h; cases h
        | some v =>
          obtain ⟨v, A1⟩ := v
          rw [hr] at h
          simp only [dE] at h
          exact Grow.trans (op_next (M := M) (q := .call f args) hm hr) (runDrawn_next hm (cond_inv h).2)

theorem exec_mono (hF : ∀ g s, F g = some (.orc s) → OrcMono s) : ∀ N, ExMono (exec M F N)
  | 0 => fun c fr A x fr' A' h => by cases h
  | N + 1 => by
    have ih := exec_mono hF N
    have ihc := callW_mono (M := M) hF ih
    intro c fr A x fr' A' h
    simp only [exec] at h
    have hthen : ∀ {k : Code_} {r : Option (Ex × Fr × AH)}, (∀ (fr : Fr) (B : AH) (x : Ex) (fr' : Fr) (B' : AH), k fr B = some (x, fr', B') → Grow B B') → (∀ (x : Ex) (f : Fr) (B : AH), r = some (x, f, B) → Grow A B) → thenX k r = some (x, fr', A') → Grow A A' := by
      intro k r hk hr h
      cases r with
      | none => cases h
      | some t =>
        obtain ⟨x1, fr1, A1⟩ := t
        cases x1 with
        | normal => exact Grow.trans (hr _ _ _ rfl) (hk _ _ _ _ _ h)
        | exit i => simp only [thenX, Option.some.injEq, Prod.mk.injEq] at h; rw [← h.2.2]; exact hr _ _ _ rfl
        | ret => simp only [thenX, Option.some.injEq, Prod.mk.injEq] at h; rw [← h.2.2]; exact hr _ _ _ rfl
    cases c with
    | skip => simp only [stepI, Option.some.injEq, Prod.mk.injEq] at h; rw [← h.2.2]; exact Grow.refl _
    | exit id => simp only [stepI, Option.some.injEq, Prod.mk.injEq] at h; rw [← h.2.2]; exact Grow.refl _
    | ret => simp only [stepI, Option.some.injEq, Prod.mk.injEq] at h; rw [← h.2.2]; exact Grow.refl _
    | ops l =>
      simp only [stepI] at h
      cases hr : runOps M (callW M F (exec M F N)) l fr A with
      | none => rw [hr] at h; cases h
      | some t => rw [hr] at h; simp only [fin, Option.some.injEq, Prod.mk.injEq] at h; rw [← h.2.2]; exact runOps_next (fr' := t.1) ihc hr
    | drawn l =>
      simp only [stepI] at h
      cases hr : runDrawn M (callW M F (exec M F N)) l fr A [A] 0 [] with
      | none => rw [hr] at h; cases h
      | some t => rw [hr] at h; simp only [fin, Option.some.injEq, Prod.mk.injEq] at h; rw [← h.2.2]; exact runDrawn_next (fr' := t.1) ihc hr
    | seq a b => exact hthen (fun _ _ _ _ _ => ih _ _ _ _ _ _) (fun _ _ _ => ih _ _ _ _ _ _) h
    | loop a => exact hthen (fun _ _ _ _ _ => ih _ _ _ _ _ _) (fun _ _ _ => ih _ _ _ _ _ _) h
    | cond c a b =>
      simp only [stepI] at h
      cases hv : fr.ev c with
      | bool z => rw [hv] at h; exact ih _ _ _ _ _ _ h
      | _ => rw [hv] at h; cases h
    | block id a =>
      simp only [stepI] at h
      cases hr : exec M F N a fr A with
      | none => rw [hr] at h; cases h
      | some t =>
        obtain ⟨x1, fr1, A1⟩ := t
        have := ih _ _ _ _ _ _ hr
        rw [hr] at h
        cases x1 with
        | normal => simp only [blockX, Option.some.injEq, Prod.mk.injEq] at h; rw [← h.2.2]; exact this
        | ret => simp only [blockX, Option.some.injEq, Prod.mk.injEq] at h; rw [← h.2.2]; exact this
        | exit i =>
          simp only [blockX] at h
          revert h
          cases Nat.beq i id <;> intro h <;> simp only [cond_true, cond_false, Option.some.injEq, Prod.mk.injEq] at h <;> rw [← h.2.2] <;> exact this
end

def exOf : Ex → Exit
  | .normal => .normal
  | .exit id => .exit id
  | .ret => .ret

section
variable {P : Program} {M : Old} {base : Nat}

def CodeS (P : Program) (M : Old) (base : Nat) (ex : IC → Code_) : Prop :=
  ∀ (n : Nat) (c : Code) (c' : IC) (fr : Fr) (A : AH) (x : Ex) (fr' : Fr) (A' : AH) (μ : Pl) (a : Act) (w : World) (Q : Exit → Act → World → Prop),
    prepCode P n c = some c' → ex c' fr A = some (x, fr', A') → Sim P M base μ A w → FrR μ n fr a → (∀ i, A.next ≤ i → i < A'.next → μ i = none) →
    (∀ a' w', Left P M base n μ A w fr' A' a' w' → Q (exOf x) a' w') → c.wp P Q a w

/-- What is asked of regions that draw their order. -/
def DrawnS (P : Program) (M : Old) (base : Nat) (cf : CallF) : Prop :=
  ∀ (n id : Nat) (ops : Array Oper) (is : List Iop) (fr : Fr) (A : AH) (fr' : Fr) (A' : AH) (μ : Pl) (a : Act) (w : World) (Q : Exit → Act → World → Prop),
    prepRegion P n ops true = some (.drawn is) → runDrawn M cf is fr A [A] 0 [] = some (fr', A') → Sim P M base μ A w → FrR μ n fr a → (∀ i, A.next ≤ i → i < A'.next → μ i = none) →
    (∀ a' w', Left P M base n μ A w fr' A' a' w' → Q .normal a' w') → (Code.region id ops true).wp P Q a w

structure TblS (P : Program) (M : Old) (base : Nat) (F : Tbl) : Prop where
  code : ∀ g fn, F g = some (.code fn) → prepFn P g = some fn
  mono : ∀ g s, F g = some (.orc s) → OrcMono s
  orc : ∀ g s, F g = some (.orc s) → ∀ (args : List Value) (A : AH) (v : Value) (A' : AH) (μ : Pl) (w : World) (cargs : Array Value), s args A = some (v, A') → Sim P M base μ A w →
    (∀ i, A.next ≤ i → i < A'.next → μ i = none) → VRL μ args cargs.toList →
    (∃ fn, P.funcs[g]? = some fn ∧ fn.body.isSome = true ∧ (fn.name == "runtime.NumGoroutine") = false) ∧
    Calls P g cargs w fun e w' => ∃ μ' c, e = .returned c ∧ VR μ' v c ∧ Step P M base μ A w μ' A' w'

theorem Step.fresh {μ μ1 : Pl} {A A1 : AH} {w w1 : World} (h : Step P M base μ A w μ1 A1 w1) {k : Nat} (hf : ∀ i, A.next ≤ i → i < k → μ i = none) : ∀ i, A1.next ≤ i → i < k → μ1 i = none := by
  intro j h1 h2
  have hn := h.nxt
  cases hj : μ1 j with
  | none => rfl
  | some p =>
    rcases h.dom j p hj with h3 | h3
    · rw [hf j (by omega) h2] at h3; cases h3
    · omega

theorem start_FrR {μ : Pl} {args : List Value} {cargs : Array Value} (h : VRL μ args cargs.toList) {n : Nat} (hn : args.length ≤ n) : FrR μ n (T.setL .nil 0 args) { tmps := cargs ++ Array.replicate (n - cargs.size) undef, defers := [] } := by
  have hl : args.length = cargs.size := by simpa using h.1
  have key : ∀ t : Nat, VR μ (Fr.ev (T.setL .nil 0 args) (.tmp t)) ((cargs ++ Array.replicate (n - cargs.size) undef).getD t undef) := by
   intro t
   simp only [Fr.ev, T.get_setL]
   by_cases ht : t < args.length
   · have h1 : (0 ≤ t ∧ t < 0 + args.length) := by omega
     simp only [h1, and_self, if_true]
     obtain ⟨c, hc, hr⟩ := h.2 t args[t] (List.getElem?_eq_getElem ht)
     have e1 : (cargs ++ Array.replicate (n - cargs.size) undef).getD t undef = c := by
       rw [Array.getD_eq_getD_getElem?, Array.getElem?_append_left (by omega)]
       simp at hc
       rw [hc]; rfl
     rw [e1]
     simpa [evTmp, List.getElem?_eq_getElem ht] using hr
   · have h1 : ¬ (0 ≤ t ∧ t < 0 + args.length) := by omega
     rw [if_neg h1]
     have e1 : (cargs ++ Array.replicate (n - cargs.size) undef).getD t undef = undef := by
       rw [Array.getD_eq_getD_getElem?, Array.getElem?_append_right (by omega), Array.getElem?_replicate]
       split <;> rfl
     rw [e1]
     simp only [T.get_nil, evTmp]
     exact .undef
  exact ⟨key, by simp; omega, rfl⟩
end
end Go.Proofs.AM

namespace Go.Proofs.AM
open Go
set_option linter.unusedSimpArgs false
set_option linter.unusedVariables false

section
variable {P : Program} {M : Old} {base : Nat} {F : Tbl}

theorem prepFn_inv {g : Nat} {fn' : IFn} (h : prepFn P g = some fn') : ∃ fn c, P.funcs[g]? = some fn ∧ fn.body = some c ∧ fn'.ntmps = fn.ntmps ∧ prepCode P fn.ntmps c = some fn'.body ∧ prepRes P fn.results.toList = some fn'.results ∧ (fn.name == "runtime.NumGoroutine") = false := by
  unfold prepFn at h
  split at h
  · cases h
  · rename_i fn hfn
    split at h
    · cases h
    · rename_i c hc
      split at h
      · rename_i body rs h1 h2
        cases hn : (fn.name == "runtime.NumGoroutine") with
        | true => rw [hn] at h; cases h
        | false =>
          rw [hn, cond_false] at h
          simp only [Option.some.injEq] at h
          subst h
          exact ⟨fn, c, hfn, hc, rfl, h1, h2, hn⟩
      · cases h


theorem callW_sound (hT : TblS P M base F) {ex : IC → Code_} (hm : ExMono ex) (hx : CodeS P M base ex) : CallS P M base (callW M F ex) := by
  intro g args A v A' μ w cargs h S hfresh hargs
  have hnext := (callW_mono hT.mono hm g args A v A' h).1
  unfold callW at h
  cases hg : F g with
  | none => rw [hg] at h; cases h
  | some e =>
    rw [hg] at h
    cases e with
    | orc s =>
      obtain ⟨h1, h2⟩ := hT.orc g s hg args A v A' μ w cargs h S hfresh hargs
      exact ⟨h1, hnext, h2⟩
    | code fn' =>
      obtain ⟨fn, c, h1, h2, h3, h4, h5, h6⟩ := prepFn_inv (hT.code g fn' hg)
      refine ⟨⟨fn, h1, by rw [h2]; rfl, h6⟩, hnext, ?_⟩
      simp only [enterE, enterF] at h
      obtain ⟨hlen, h⟩ := cond_inv h
      have hlen' : args.length ≤ fn.ntmps := by rw [← h3]; exact Nat.le_of_ble_eq_true hlen
      cases he : ex fn'.body (T.setL .nil 0 args) A with
      | none => rw [he] at h; cases h
      | some r =>
        obtain ⟨x, fr', A1⟩ := r
        rw [he] at h
        have main : x ≠ .exit 0 → leaveF2 A1 (resOf M fr' A1 fn'.results) = some (v, A') → (exOf x = .normal ∨ exOf x = .ret) → Calls P g cargs w fun e w' => ∃ μ' c, e = .returned c ∧ VR μ' v c ∧ Step P M base μ A w μ' A' w' := by
          intro _ h hxx
          cases hr : resOf M fr' A1 fn'.results with
          | none => rw [hr] at h; cases h
          | some vs =>
            rw [hr] at h
            simp only [leaveF2, Option.some.injEq, Prod.mk.injEq] at h
            obtain ⟨rfl, rfl⟩ := h
            refine calls_of_wp h1 h2 (hx fn.ntmps c fn'.body _ A x fr' A1 μ _ w _ h4 he S (start_FrR hargs hlen') hfresh ?_)
            rintro a' w' ⟨μ', g1, g2⟩
            obtain ⟨cv, k1, k2⟩ := res_sound g2.sim g1 h5 hr
            rcases hxx with hxx | hxx <;> rw [hxx] <;> exact ⟨g1.defers, cv, k2, μ', cv, rfl, k1, g2⟩
        cases x with
        | exit i => simp [leaveF] at h
        | normal => exact main (by simp) h (.inl rfl)
        | ret => exact main (by simp) h (.inr rfl)

theorem code_sound (hT : TblS P M base F) (hdr : ∀ cf, CallMono cf → CallS P M base cf → DrawnS P M base cf) : ∀ N, CodeS P M base (exec M F N) := by
  intro N
  induction N using Nat.strongRecOn with
  | _ N IH =>
    cases N with
    | zero => intro n c c' fr A x fr' A' μ a w Q _ h; cases h
    | succ N =>
      have IHN := IH N (Nat.lt_succ_self N)
      have hmono := exec_mono (M := M) hT.mono N
      have hcm := callW_mono (M := M) hT.mono hmono
      have hcs := callW_sound hT hmono IHN
      -- one code after another
      have hseq : ∀ (n : Nat) (c : Code) (c' : IC) (k : Code_) (fr : Fr) (A : AH) (x : Ex) (fr' : Fr) (A' : AH) (μ : Pl) (a : Act) (w : World) (Q : Exit → Act → World → Prop) (K : Act → World → Prop),
          prepCode P n c = some c' → thenX k (exec M F N c' fr A) = some (x, fr', A') → (∀ fr B x' fr' B', k fr B = some (x', fr', B') → Grow B B') → Sim P M base μ A w → FrR μ n fr a → (∀ i, A.next ≤ i → i < A'.next → μ i = none) →
          (∀ a' w', Left P M base n μ A w fr' A' a' w' → Q (exOf x) a' w') →
          (∀ fr1 A1 μ1 a1 w1, k fr1 A1 = some (x, fr', A') → Sim P M base μ1 A1 w1 → FrR μ1 n fr1 a1 → (∀ i, A1.next ≤ i → i < A'.next → μ1 i = none) → (∀ a' w', Left P M base n μ1 A1 w1 fr' A' a' w' → Q (exOf x) a' w') → K a1 w1) →
          c.wp P (Exit.then K Q) a w := by
        intro n c c' k fr A x fr' A' μ a w Q K hp h hkm S hF hfresh hQ hK
        cases hr : exec M F N c' fr A with
        | none => rw [hr] at h; cases h
        | some t =>
          obtain ⟨x1, fr1, A1⟩ := t
          rw [hr] at h
          cases x1 with
          | normal =>
            simp only [thenX] at h
            have hk := (hkm _ _ _ _ _ h).1
            refine IHN n c c' fr A .normal fr1 A1 μ a w _ hp hr S hF (fun i h1 h2 => hfresh i h1 (by omega)) ?_
            rintro a1 w1 ⟨μ1, g1, g2⟩
            exact hK fr1 A1 μ1 a1 w1 h g2.sim g1 (g2.fresh hfresh) (fun a' w' ⟨μ2, k1, k2⟩ => hQ a' w' ⟨μ2, k1, g2.trans k2⟩)
          | exit i =>
            simp only [thenX, Option.some.injEq, Prod.mk.injEq] at h
            obtain ⟨rfl, rfl, rfl⟩ := h
            exact IHN n c c' fr A (.exit i) fr1 A1 μ a w _ hp hr S hF hfresh hQ
          | ret =>
            simp only [thenX, Option.some.injEq, Prod.mk.injEq] at h
            obtain ⟨rfl, rfl, rfl⟩ := h
            exact IHN n c c' fr A .ret fr1 A1 μ a w _ hp hr S hF hfresh hQ
      intro n c c' fr A x fr' A' μ a w Q hp h S hF hfresh hQ
      simp only [exec] at h
      cases c with
      | skip =>
        simp only [prepCode, Option.some.injEq] at hp
        subst hp
        simp only [stepI, Option.some.injEq, Prod.mk.injEq] at h
        obtain ⟨rfl, rfl, rfl⟩ := h
        exact wp_skip (hQ a w ⟨μ, hF, .refl S⟩)
      | exit id =>
        simp only [prepCode, Option.some.injEq] at hp
        subst hp
        simp only [stepI, Option.some.injEq, Prod.mk.injEq] at h
        obtain ⟨rfl, rfl, rfl⟩ := h
        exact wp_exit (hQ a w ⟨μ, hF, .refl S⟩)
      | ret =>
        simp only [prepCode, Option.some.injEq] at hp
        subst hp
        simp only [stepI, Option.some.injEq, Prod.mk.injEq] at h
        obtain ⟨rfl, rfl, rfl⟩ := h
        exact wp_ret (hQ a w ⟨μ, hF, .refl S⟩)
      | region id ops draw =>
        simp only [prepCode] at hp
        cases draw with
        | true =>
          have hp0 := hp
          unfold prepRegion at hp
          split at hp
          · cases hp
          · rename_i is his
            rw [cond_true] at hp
            have hp1 := (cond_inv hp).2
            simp only [Option.some.injEq] at hp1
            subst hp1
            simp only [stepI] at h
            cases hr : runDrawn M (callW M F (exec M F N)) (windows (masks ops.toList) (effsOf 0 is) 0 is) fr A [A] 0 [] with
            | none => rw [hr] at h; cases h
            | some t =>
              obtain ⟨f1, A1⟩ := t
              rw [hr] at h
              simp only [fin, Option.some.injEq, Prod.mk.injEq] at h
              obtain ⟨rfl, rfl, rfl⟩ := h
              exact hdr _ hcm hcs n id ops _ fr A f1 A1 μ a w Q hp0 hr S hF hfresh hQ
        | false =>
          unfold prepRegion at hp
          split at hp
          · cases hp
          · rename_i is his
            rw [cond_false] at hp
            simp only [Option.some.injEq] at hp
            subst hp
            simp only [stepI] at h
            cases hr : runOps M (callW M F (exec M F N)) is fr A with
            | none => rw [hr] at h; cases h
            | some t =>
              obtain ⟨f1, A1⟩ := t
              rw [hr] at h
              simp only [fin, Option.some.injEq, Prod.mk.injEq] at h
              obtain ⟨rfl, rfl, rfl⟩ := h
              exact wp_region_list (ops_wp hcm hcs (prepOps_spec his) hr S hF hfresh hQ)
      | seq c1 c2 =>
        simp only [prepCode] at hp
        split at hp
        · rename_i c1' c2' hp1 hp2
          simp only [Option.some.injEq] at hp
          subst hp
          exact wp_seq (hseq n c1 c1' (exec M F N c2') fr A x fr' A' μ a w Q _ hp1 h (fun _ _ _ _ _ => hmono _ _ _ _ _ _) S hF hfresh hQ
            fun fr1 A1 μ1 a1 w1 k1 k2 k3 k4 k5 => IHN n c2 c2' fr1 A1 x fr' A' μ1 a1 w1 Q hp2 k1 k2 k3 k4 k5)
        · cases hp
      | cond c c1 c2 =>
        simp only [prepCode] at hp
        obtain ⟨hok, hp⟩ := cond_inv hp
        split at hp
        · rename_i c1' c2' hp1 hp2
          simp only [Option.some.injEq] at hp
          subst hp
          simp only [stepI] at h
          have hv := hF.ev hok
          cases he : fr.ev c with
          | bool z =>
            rw [he] at h hv
            simp only [condX] at h
            have hc := (bool_VR hv z).1 rfl
            refine wp_cond hc ?_
            cases z with
            | true => exact IHN n c1 c1' fr A x fr' A' μ a w Q hp1 h S hF hfresh hQ
            | false => exact IHN n c2 c2' fr A x fr' A' μ a w Q hp2 h S hF hfresh hQ
          | _ => rw [he] at h; cases h
        · cases hp
      | block id c1 =>
        simp only [prepCode, Option.map_eq_some_iff] at hp
        obtain ⟨c1', hp1, rfl⟩ := hp
        simp only [stepI] at h
        cases hr : exec M F N c1' fr A with
        | none => rw [hr] at h; cases h
        | some t =>
          obtain ⟨x1, f1, A1⟩ := t
          rw [hr] at h
          refine wp_block ?_
          cases x1 with
          | normal =>
            simp only [blockX, Option.some.injEq, Prod.mk.injEq] at h
            obtain ⟨rfl, rfl, rfl⟩ := h
            exact IHN n c1 c1' fr A .normal f1 A1 μ a w _ hp1 hr S hF hfresh hQ
          | ret =>
            simp only [blockX, Option.some.injEq, Prod.mk.injEq] at h
            obtain ⟨rfl, rfl, rfl⟩ := h
            exact IHN n c1 c1' fr A .ret f1 A1 μ a w _ hp1 hr S hF hfresh hQ
          | exit i =>
            simp only [blockX] at h
            by_cases hi : i = id
            · rw [beqEq hi, cond_true] at h
              simp only [Option.some.injEq, Prod.mk.injEq] at h
              obtain ⟨rfl, rfl, rfl⟩ := h
              refine IHN n c1 c1' fr A (.exit i) f1 A1 μ a w _ hp1 hr S hF hfresh fun a' w' hl => ?_
              simp only [exOf, Exit.inBlock, if_pos hi]
              exact hQ a' w' hl
            · rw [beqNe hi, cond_false] at h
              simp only [Option.some.injEq, Prod.mk.injEq] at h
              obtain ⟨rfl, rfl, rfl⟩ := h
              refine IHN n c1 c1' fr A (.exit i) f1 A1 μ a w _ hp1 hr S hF hfresh fun a' w' hl => ?_
              simp only [exOf, Exit.inBlock, if_neg hi]
              exact hQ a' w' hl
      | loop c1 =>
        simp only [prepCode, Option.map_eq_some_iff] at hp
        obtain ⟨c1', hp1, rfl⟩ := hp
        have key : ∀ m, m ≤ N + 1 → ∀ (fr : Fr) (A : AH) (μ : Pl) (a : Act) (w : World), exec M F m (.loop c1') fr A = some (x, fr', A') → Sim P M base μ A w → FrR μ n fr a → (∀ i, A.next ≤ i → i < A'.next → μ i = none) →
            (∀ a' w', Left P M base n μ A w fr' A' a' w' → Q (exOf x) a' w') → Code.rounds P c1 Q m a w := by
          intro m
          induction m with
          | zero => intro _ fr A μ a w h; cases h
          | succ m ihm =>
            intro hmN fr A μ a w h S hF hfresh hQ
            simp only [exec, stepI] at h
            rw [rounds_succ]
            have IHm := IH m (by omega)
            have hmm := exec_mono (M := M) hT.mono m
            cases hr : exec M F m c1' fr A with
            | none => rw [hr] at h; cases h
            | some t =>
              obtain ⟨x1, f1, A1⟩ := t
              rw [hr] at h
              cases x1 with
              | normal =>
                simp only [thenX] at h
                have hk := (hmm _ _ _ _ _ _ h).1
                refine IHm n c1 c1' fr A .normal f1 A1 μ a w _ hp1 hr S hF (fun i h1 h2 => hfresh i h1 (by omega)) ?_
                rintro a1 w1 ⟨μ1, g1, g2⟩
                exact ihm (by omega) f1 A1 μ1 a1 w1 h g2.sim g1 (g2.fresh hfresh) (fun a' w' ⟨μ2, k1, k2⟩ => hQ a' w' ⟨μ2, k1, g2.trans k2⟩)
              | exit i =>
                simp only [thenX, Option.some.injEq, Prod.mk.injEq] at h
                obtain ⟨rfl, rfl, rfl⟩ := h
                exact IHm n c1 c1' fr A (.exit i) f1 A1 μ a w _ hp1 hr S hF hfresh hQ
              | ret =>
                simp only [thenX, Option.some.injEq, Prod.mk.injEq] at h
                obtain ⟨rfl, rfl, rfl⟩ := h
                exact IHm n c1 c1' fr A .ret f1 A1 μ a w _ hp1 hr S hF hfresh hQ
        exact wp_loop_rounds (N + 1) (key (N + 1) (Nat.le_refl _) fr A μ a w (by simpa only [exec] using h) S hF hfresh hQ)
      | _ => simp [prepCode] at hp

/-- Calls are sound. -/
theorem call_sound (hT : TblS P M base F) (hdr : ∀ cf, CallMono cf → CallS P M base cf → DrawnS P M base cf) (N : Nat) : CallS P M base (call M F N) :=
  callW_sound hT (exec_mono hT.mono N) (code_sound hT hdr N)
end
end Go.Proofs.AM

namespace Go.Proofs.AM
open Go
set_option linter.unusedSimpArgs false
set_option linter.unusedVariables false

/-! ### Which operations surely come before which -/
inductive Bef (ops : List Oper) : Nat → Nat → Prop where
  | edge {k : Nat} {o : Oper} {e : Edge} (ho : ops[k]? = some o) (he : e ∈ o.after.toList) (hb : Region.binds .any e = true) : Bef ops e.on k
  | trans {i m k : Nat} (h : Bef ops i m) (h' : Bef ops m k) : Bef ops i k

def maskOf (acc : List Nat) (o : Oper) : Nat := o.after.toList.foldl (fun s e => cond (Region.binds .any e && Nat.ble (e.on + 1) acc.length) (s ||| 2 ^ e.on ||| acc.getD e.on 0) s) 0
theorem masks_eq (ops : List Oper) : masks ops = ops.foldl (fun acc o => acc ++ [maskOf acc o]) [] := rfl

theorem maskOf_spec {ops : List Oper} {acc : List Nat} {k : Nat} {o : Oper} (ho : ops[k]? = some o) (hacc : ∀ k i, (acc.getD k 0).testBit i = true → Bef ops i k) {i : Nat} (h : (maskOf acc o).testBit i = true) : Bef ops i k := by
  have key : ∀ (es : List Edge) (s : Nat), (∀ e ∈ es, e ∈ o.after.toList) → (∀ i, s.testBit i = true → Bef ops i k) →
      ∀ i, (es.foldl (fun s e => cond (Region.binds .any e && Nat.ble (e.on + 1) acc.length) (s ||| 2 ^ e.on ||| acc.getD e.on 0) s) s).testBit i = true → Bef ops i k := by
    intro es
    induction es with
    | nil => intro s _ hs i h; exact hs i h
    | cons e es ih =>
      intro s he hs i h
      rw [List.foldl_cons] at h
      refine ih _ (fun e he' => he e (List.mem_cons_of_mem _ he')) (fun i hi => ?_) i h
      cases hc : (Region.binds .any e && Nat.ble (e.on + 1) acc.length) with
      | false => rw [hc] at hi; exact hs i hi
      | true =>
        rw [hc, cond_true, Nat.testBit_or, Nat.testBit_or, Bool.or_eq_true, Bool.or_eq_true, Nat.testBit_two_pow, decide_eq_true_iff] at hi
        simp only [Bool.and_eq_true] at hc
        have hb : Bef ops e.on k := .edge ho (he e (.head _)) hc.1
        rcases hi with (hi | hi) | hi
        · exact hs i hi
        · rw [← hi]; exact hb
        · exact .trans (hacc _ _ hi) hb
  exact key o.after.toList 0 (fun _ h => h) (fun i h => by simp at h) i h

theorem masks_spec (ops : List Oper) : (masks ops).length = ops.length ∧ ∀ k i, ((masks ops).getD k 0).testBit i = true → Bef ops i k := by
  have key : ∀ (l2 l1 : List Oper) (acc : List Nat), ops = l1 ++ l2 → acc.length = l1.length → (∀ k i, (acc.getD k 0).testBit i = true → Bef ops i k) →
      (l2.foldl (fun acc o => acc ++ [maskOf acc o]) acc).length = ops.length ∧ ∀ k i, ((l2.foldl (fun acc o => acc ++ [maskOf acc o]) acc).getD k 0).testBit i = true → Bef ops i k := by
    intro l2
    induction l2 with
    | nil => intro l1 acc h hl hs; exact ⟨by rw [h]; simpa using hl, hs⟩
    | cons o l2 ih =>
      intro l1 acc h hl hs
      rw [List.foldl_cons]
      refine ih (l1 ++ [o]) _ (by simp [h]) (by simp [hl]) (fun k i hk => ?_)
      by_cases hlt : k < acc.length
      · rw [List.getD_eq_getElem?_getD, List.getElem?_append_left hlt, ← List.getD_eq_getElem?_getD] at hk
        exact hs k i hk
      · rw [List.getD_eq_getElem?_getD, List.getElem?_append_right (by omega)] at hk
        by_cases he : k = acc.length
        · have ho : ops[k]? = some o := by rw [h, List.getElem?_append_right (by omega), he, hl]; simp
          rw [he] at hk ⊢
          rw [he] at ho
          simp at hk
          exact maskOf_spec ho hs hk
        · have : k - acc.length = (k - acc.length - 1) + 1 := by omega
          rw [this] at hk
          simp at hk
  exact key ops [] [] rfl rfl (fun k i h => by simp at h)

theorem pairsOk_spec : ∀ (l : List RI) (seen : List (Nat × RI)) (k : Nat), pairsOk seen k l = true →
    (∀ a ∈ seen, ∀ b ∈ l, a.2.conf b = true → b.mask.testBit a.1 = true) ∧
    (∀ (i m : Nat) (bi bm : RI), i < m → l[i]? = some bi → l[m]? = some bm → bi.conf bm = true → bm.mask.testBit (k + i) = true)
  | [], seen, k, _ => ⟨fun a _ b hb => (by cases hb), fun i m bi bm _ h => by simp at h⟩
  | b :: l, seen, k, h => by
    simp only [pairsOk] at h
    cases hb : allB (pairOk b) seen with
    | false => rw [hb] at h; cases h
    | true =>
      rw [hb, cond_true] at h
      obtain ⟨h1, h2⟩ := pairsOk_spec l _ _ h
      have h3 : ∀ a ∈ seen, a.2.conf b = true → b.mask.testBit a.1 = true := fun a ha hc => by
        have := allB_mem hb a ha
        unfold pairOk at this
        rw [hc, cond_true] at this
        exact this
      refine ⟨fun a ha c hc hcf => ?_, fun i m bi bm him hi hm hcf => ?_⟩
      · rcases List.mem_cons.1 hc with rfl | hc
        · exact h3 a ha hcf
        · exact h1 a (List.mem_cons_of_mem _ ha) c hc hcf
      · cases m with
        | zero => omega
        | succ m =>
          cases i with
          | zero =>
            simp at hi hm
            subst hi
            exact h1 (k, b) (.head _) bm (List.mem_of_getElem? hm) hcf
          | succ i =>
            have := h2 i m bi bm (by omega) (by simpa using hi) (by simpa using hm) hcf
            rwa [show k + (i + 1) = k + 1 + i by omega]

theorem backOk_spec : ∀ (l : List Oper) (k : Nat), backOk k l = true → ∀ (i : Nat) (o : Oper) (e : Edge), l[i]? = some o → e ∈ o.after.toList → Region.binds .any e = true → e.on < k + i
  | [], k, _, i, o, e, h, _, _ => by simp at h
  | p :: l, k, h, i, o, e, ho, he, hb => by
    simp only [backOk] at h
    cases hc : allB (fun e => cond (Region.binds .any e) (Nat.ble (e.on + 1) k) true) p.after.toList with
    | false => rw [hc] at h; cases h
    | true =>
      rw [hc, cond_true] at h
      cases i with
      | zero =>
        simp at ho
        subst ho
        have := allB_mem hc e he
        rw [hb, cond_true] at this
        exact Nat.le_of_ble_eq_true this
      | succ i =>
        have := backOk_spec l (k + 1) h i o e (by simpa using ho) he hb
        omega

theorem risOf_get : ∀ (ops : List Oper) (is : List Iop) (mk : List Nat) (k : Nat) (o : Oper) (i : Iop), ops.length = is.length → ops.length = mk.length → ops[k]? = some o → is[k]? = some i →
    (risOf ops is mk)[k]? = some ⟨o.dst, looksOf o i.g, i.op.eff, mk.getD k 0⟩
  | [], is, mk, k, o, i, _, _, h, _ => by simp at h
  | p :: ops, [], mk, k, o, i, h, _, _, _ => by simp at h
  | p :: ops, q :: is, [], k, o, i, _, h, _, _ => by simp at h
  | p :: ops, q :: is, m :: mk, k, o, i, h1, h2, h3, h4 => by
    cases k with
    | zero => simp at h3 h4; subst h3 h4; simp [risOf]
    | succ k =>
      have := risOf_get ops is mk k o i (by simpa using h1) (by simpa using h2) (by simpa using h3) (by simpa using h4)
      simpa [risOf] using this

def loOf (mk es : List Nat) (k : Nat) : Nat := countIn (mk.getD k 0) es
def hiOf (mk es : List Nat) (k : Nat) : Nat := (es.filter fun e => !((mk.getD e 0).testBit k)).length
theorem windows_get (mk es : List Nat) : ∀ (is : List Iop) (k0 k : Nat) (i : Iop), is[k]? = some i → (windows mk es k0 is)[k]? = some { i with lo := loOf mk es (k0 + k), hi := hiOf mk es (k0 + k) }
  | [], k0, k, i, h => by simp at h
  | q :: is, k0, k, i, h => by
    cases k with
    | zero => simp at h; subst h; simp [windows, loOf, hiOf]
    | succ k =>
      have := windows_get mk es is (k0 + 1) k i (by simpa using h)
      simp only [windows, List.getElem?_cons_succ, this]
      rw [show k0 + 1 + k = k0 + (k + 1) by omega]
theorem windows_length (mk es : List Nat) : ∀ (is : List Iop) (k0 : Nat), (windows mk es k0 is).length = is.length
  | [], _ => rfl
  | q :: is, k0 => by simp [windows, windows_length mk es is]

/-- How many effects lie ahead of a place. -/
def ecnt (is : List Iop) (k : Nat) : Nat := ((is.take k).filter fun i => i.op.eff).length

theorem All2.length {α β : Type} {R : α → β → Prop} {l : List α} {m : List β} (h : All2 R l m) : l.length = m.length := by
  induction h with
  | nil => rfl
  | cons _ _ ih => simp [ih]
theorem All2.get {α β : Type} {R : α → β → Prop} {l : List α} {m : List β} (h : All2 R l m) : ∀ {k : Nat} {a : α} {b : β}, l[k]? = some a → m[k]? = some b → R a b := by
  induction h with
  | nil => intro k a b h; simp at h
  | cons hr _ ih =>
    intro k a b h1 h2
    cases k with
    | zero => simp at h1 h2; subst h1 h2; exact hr
    | succ k => exact ih (by simpa using h1) (by simpa using h2)

theorem memN_mem {x : Nat} : ∀ {l : List Nat}, x ∈ l → memN x l = true
  | [], h => by cases h
  | y :: l, h => by
    simp only [memN]
    by_cases e : x = y
    · rw [beqEq e]; rfl
    · rw [beqNe e, cond_false]
      rcases List.mem_cons.1 h with h | h
      · exact absurd h e
      · exact memN_mem h
end Go.Proofs.AM

namespace Go.Proofs.AM
open Go
set_option linter.unusedSimpArgs false
set_option linter.unusedVariables false

section
variable {M : Old} {cf : CallF}

def Reads (M : Old) (q : ROp) (fr : Fr) (v : Value) (H : AH) : Prop := ∃ u, readR q M fr.ev H = some u ∧ sameV v u = true

theorem sameO_spec {v : Value} {o : Option Value} (h : sameO v o = true) : ∃ u, o = some u ∧ sameV v u = true := by
  cases o with
  | none => cases h
  | some u => exact ⟨u, rfl, h⟩
theorem cond_true_inv {c x : Bool} (h : cond c x false = true) : c = true ∧ x = true := by cases c <;> simp_all
theorem sameIn_spec {q : ROp} {fr : Fr} {v : Value} : ∀ {n : Nat} {hist : List AH}, sameIn M q fr v n hist = true → ∀ (i : Nat) (H : AH), i < n → hist[i]? = some H → Reads M q fr v H
  | 0, hist, _, i, H, hi, _ => by omega
  | n + 1, [], _, i, H, _, hH => by simp at hH
  | n + 1, A :: l, h, i, H, hi, hH => by
    simp only [sameIn] at h
    obtain ⟨h1, h2⟩ := cond_true_inv h
    cases i with
    | zero => simp at hH; subst hH; exact sameO_spec h1
    | succ i => exact sameIn_spec h2 i H (by omega) (by simpa using hH)
theorem pendOk_spec {j : Nat} {A : AH} : ∀ {l : List Pend}, pendOk M j A l = true → ∀ p ∈ l, j ≤ p.hi → Reads M p.op p.fr p.v A
  | [], _, p, hp, _ => by cases hp
  | q :: l, h, p, hp, hj => by
    simp only [pendOk] at h
    cases hc : Nat.ble j q.hi with
    | true =>
      rw [hc, cond_true] at h
      obtain ⟨h1, h2⟩ := cond_true_inv h
      rcases List.mem_cons.1 hp with rfl | hp
      · exact sameO_spec h1
      · exact pendOk_spec h2 p hp hj
    | false =>
      rw [hc, cond_false] at h
      rcases List.mem_cons.1 hp with rfl | hp
      · rw [ble_of hj] at hc; cases hc
      · exact pendOk_spec h p hp hj

/-- What a run in the order of the list says. -/
structure Trace (M : Old) (cf : CallF) (ios : List Iop) (j : Nat) (F : Nat → Fr) (B : Nat → AH) (V : Nat → Value) (Hs : Nat → AH) : Prop where
  next : ∀ (k : Nat) (io : Iop), ios[k]? = some io → F (k + 1) = putD io.dst (V k) (F k)
  idle : ∀ (k : Nat) (io : Iop), ios[k]? = some io → wants io.g (F k) = false → V k = undef ∧ B (k + 1) = B k
  run : ∀ (k : Nat) (io : Iop), ios[k]? = some io → wants io.g (F k) = true → opR io.op M cf (F k).ev (B k) = some (V k, B (k + 1))
  eff : ∀ (k : Nat) (io : Iop), ios[k]? = some io → io.op.eff = true → Hs (j + ecnt ios k + 1) = B (k + 1)
  read : ∀ (k : Nat) (io : Iop) (q : ROp), ios[k]? = some io → wants io.g (F k) = true → io.op = .r q → ∀ j', io.lo ≤ j' → j' ≤ io.hi → j' ≤ j + ecnt ios ios.length → Reads M q (F k) (V k) (Hs j')

def consN {α : Type} (x : α) (f : Nat → α) : Nat → α
  | 0 => x
  | k + 1 => f k

theorem ecnt_zero (ios : List Iop) : ecnt ios 0 = 0 := rfl
theorem ecnt_cons (io : Iop) (ios : List Iop) (k : Nat) : ecnt (io :: ios) (k + 1) = (if io.op.eff then 1 else 0) + ecnt ios k := by
  unfold ecnt
  rw [List.take_succ_cons, List.filter_cons]
  cases io.op.eff <;> simp [Nat.add_comm]

theorem Trace.cons {io : Iop} {ios : List Iop} {j j1 : Nat} {fr : Fr} {A : AH} {v : Value} {F : Nat → Fr} {B : Nat → AH} {V : Nat → Value} {Hs : Nat → AH} (h : Trace M cf ios j1 F B V Hs) (hj : j1 = j + if io.op.eff then 1 else 0)
    (hF : F 0 = putD io.dst v fr) (hidle : wants io.g fr = false → v = undef ∧ B 0 = A) (hrun : wants io.g fr = true → opR io.op M cf fr.ev A = some (v, B 0)) (heff : io.op.eff = true → Hs (j + 1) = B 0)
    (hread : ∀ q, wants io.g fr = true → io.op = .r q → ∀ j', io.lo ≤ j' → j' ≤ io.hi → j' ≤ j1 + ecnt ios ios.length → Reads M q fr v (Hs j')) :
    Trace M cf (io :: ios) j (consN fr F) (consN A B) (consN v V) Hs where
  next := fun k i hk => by
    cases k with
    | zero => simp at hk; subst hk; exact hF
    | succ k => exact h.next k i (by simpa using hk)
  idle := fun k i hk hw => by
    cases k with
    | zero => simp at hk; subst hk; exact hidle hw
    | succ k => exact h.idle k i (by simpa using hk) hw
  run := fun k i hk hw => by
    cases k with
    | zero => simp at hk; subst hk; exact hrun hw
    | succ k => exact h.run k i (by simpa using hk) hw
  eff := fun k i hk he => by
    cases k with
    | zero => simp at hk; subst hk; rw [ecnt_zero]; exact heff he
    | succ k =>
      have := h.eff k i (by simpa using hk) he
      rw [ecnt_cons, ← Nat.add_assoc, ← hj]
      exact this
  read := fun k i q hk hw hq j' h1 h2 h3 => by
    have h3' : j' ≤ j1 + ecnt ios ios.length := by
      rw [List.length_cons, ecnt_cons] at h3
      rw [hj]; omega
    cases k with
    | zero => simp at hk; subst hk; exact hread q hw hq j' h1 h2 h3'
    | succ k => exact h.read k i q (by simpa using hk) hw hq j' h1 h2 h3'

theorem runDrawn_trace : ∀ (ios : List Iop) (fr : Fr) (A : AH) (hist : List AH) (j : Nat) (pend : List Pend) (fr' : Fr) (A' : AH), runDrawn M cf ios fr A hist j pend = some (fr', A') → hist.length = j + 1 →
    ∃ F B V Hs, F 0 = fr ∧ B 0 = A ∧ F ios.length = fr' ∧ B ios.length = A' ∧ (∀ (i : Nat), i ≤ j → hist[i]? = some (Hs (j - i))) ∧ Trace M cf ios j F B V Hs ∧
      ∀ p ∈ pend, ∀ j', j < j' → j' ≤ p.hi → j' ≤ j + ecnt ios ios.length → Reads M p.op p.fr p.v (Hs j')
  | [], fr, A, hist, j, pend, fr', A', h, hl => by
    simp only [runDrawn, Option.some.injEq, Prod.mk.injEq] at h
    obtain ⟨rfl, rfl⟩ := h
    refine ⟨fun _ => fr, fun _ => A, fun _ => undef, fun m => hist.getD (j - m) A, rfl, rfl, rfl, rfl, fun i hi => ?_, ⟨fun k io hk => by simp at hk, fun k io hk => by simp at hk, fun k io hk => by simp at hk, fun k io hk => by simp at hk, fun k io q hk => by simp at hk⟩, fun p _ j' h1 _ h3 => ?_⟩
    · have : j - (j - i) = i := by omega
      have hlt : i < hist.length := by omega
      show hist[i]? = some (hist.getD (j - (j - i)) A)
      rw [this]
      simp [List.getD_eq_getElem?_getD, hlt]
    · simp [ecnt] at h3; omega
  | io :: ios, fr, A, hist, j, pend, fr', A', h, hl => by
    simp only [runDrawn] at h
    have lift : ∀ {F : Nat → Fr} {B : Nat → AH} {V : Nat → Value} {Hs : Nat → AH} {v : Value}, F ios.length = fr' → B ios.length = A' → (consN fr F (io :: ios).length = fr' ∧ consN A B (io :: ios).length = A') := fun h1 h2 => ⟨h1, h2⟩
    -- an effect
    have doEff : ∀ (v : Value) (A1 : AH), io.op.eff = true → dE M (runDrawn M cf ios) io.dst fr hist j pend (some (v, A1)) = some (fr', A') → (wants io.g fr = false → v = undef ∧ A1 = A) → (wants io.g fr = true → opR io.op M cf fr.ev A = some (v, A1)) →
        ∃ F B V Hs, F 0 = fr ∧ B 0 = A ∧ F (io :: ios).length = fr' ∧ B (io :: ios).length = A' ∧ (∀ (i : Nat), i ≤ j → hist[i]? = some (Hs (j - i))) ∧ Trace M cf (io :: ios) j F B V Hs ∧
          ∀ p ∈ pend, ∀ j', j < j' → j' ≤ p.hi → j' ≤ j + ecnt (io :: ios) (io :: ios).length → Reads M p.op p.fr p.v (Hs j') := by
      intro v A1 he h hid hru
      simp only [dE] at h
      obtain ⟨hp, h⟩ := cond_inv h
      obtain ⟨F, B, V, Hs, h1, h2, h3, h4, h5, h6, h7⟩ := runDrawn_trace ios _ A1 (A1 :: hist) (j + 1) pend fr' A' h (by simp [hl])
      have hH : Hs (j + 1) = A1 := by have := h5 0 (by omega); simpa using this.symm
      refine ⟨consN fr F, consN A B, consN v V, Hs, rfl, rfl, h3, h4, fun i hi => ?_, h6.cons (by rw [he]; rfl) h1 (fun hw => by rw [h2]; exact hid hw) (fun hw => by rw [h2]; exact hru hw) (fun _ => by rw [h2]; exact hH) (fun q _ hq => by rw [hq] at he; cases he), fun p hpm j' g1 g2 g3 => ?_⟩
      · have := h5 (i + 1) (by omega)
        rw [List.getElem?_cons_succ] at this
        rw [this, show j + 1 - (i + 1) = j - i by omega]
      · rw [List.length_cons, ecnt_cons, he] at g3
        by_cases e : j' = j + 1
        · subst e; rw [hH]; exact pendOk_spec hp p hpm g2
        · exact h7 p hpm j' (by omega) g2 (by simp at g3; omega)
    -- any other
    have doElse : ∀ (v : Value) (A1 : AH) (pend' : List Pend), io.op.eff = false → runDrawn M cf ios (putD io.dst v fr) A1 hist j pend' = some (fr', A') → (wants io.g fr = false → v = undef ∧ A1 = A) → (wants io.g fr = true → opR io.op M cf fr.ev A = some (v, A1)) → (∀ p ∈ pend, p ∈ pend') →
        (∀ q, wants io.g fr = true → io.op = .r q → ⟨io.hi, q, fr, v⟩ ∈ pend' ∧ sameIn M q fr v (j + 1 - io.lo) hist = true) →
        ∃ F B V Hs, F 0 = fr ∧ B 0 = A ∧ F (io :: ios).length = fr' ∧ B (io :: ios).length = A' ∧ (∀ (i : Nat), i ≤ j → hist[i]? = some (Hs (j - i))) ∧ Trace M cf (io :: ios) j F B V Hs ∧
          ∀ p ∈ pend, ∀ j', j < j' → j' ≤ p.hi → j' ≤ j + ecnt (io :: ios) (io :: ios).length → Reads M p.op p.fr p.v (Hs j') := by
      intro v A1 pend' he h hid hru hsub hrd
      obtain ⟨F, B, V, Hs, h1, h2, h3, h4, h5, h6, h7⟩ := runDrawn_trace ios _ A1 hist j pend' fr' A' h hl
      refine ⟨consN fr F, consN A B, consN v V, Hs, rfl, rfl, h3, h4, h5, h6.cons (by rw [he]; rfl) h1 (fun hw => by rw [h2]; exact hid hw) (fun hw => by rw [h2]; exact hru hw) (fun hh => by rw [he] at hh; cases hh) (fun q hw hq j' g1 g2 g3 => ?_), fun p hpm j' g1 g2 g3 => ?_⟩
      · obtain ⟨k1, k2⟩ := hrd q hw hq
        by_cases hj : j' ≤ j
        · have := h5 (j - j') (by omega)
          rw [show j - (j - j') = j' by omega] at this
          exact sameIn_spec k2 (j - j') _ (by omega) this
        · exact h7 _ k1 j' (by omega) g2 g3
      · rw [List.length_cons, ecnt_cons, he] at g3
        exact h7 p (hsub p hpm) j' g1 g2 (by simpa using g3)
    cases hb : wants io.g fr with
    | false =>
      rw [hb, cond_false] at h
      cases he : io.op.eff with
      | true =>
        rw [he, cond_true] at h
        exact doEff undef A he h (fun _ => ⟨rfl, rfl⟩) (fun hw => by rw [hb] at hw; cases hw)
      | false =>
        rw [he, cond_false] at h
        exact doElse undef A pend he h (fun _ => ⟨rfl, rfl⟩) (fun hw => by rw [hb] at hw; cases hw) (fun _ hp => hp) (fun q hw => by rw [hb] at hw; cases hw)
    | true =>
      rw [hb, cond_true] at h
      have nf : wants io.g fr = false → ∀ {C : Prop}, C := fun hw => by rw [hb] at hw; cases hw
      cases hq : io.op with
      | p q =>
        rw [hq] at h
        simp only [drawn1] at h
        cases hr : pureR q fr.ev with
        | none => rw [hr] at h; cases h
        | some v =>
          rw [hr] at h
          simp only [dP] at h
          exact doElse v A pend (by rw [hq]; rfl) h (fun hw => nf hw) (fun _ => by rw [hq]; simp only [opR, opP, hr, andP]) (fun _ hp => hp) (fun q' _ hq' => by rw [hq] at hq'; cases hq')
      | r q =>
        rw [hq] at h
        simp only [drawn1] at h
        cases hr : readR q M fr.ev A with
        | none => rw [hr] at h; cases h
        | some v =>
          rw [hr] at h
          simp only [dR] at h
          obtain ⟨hs, h⟩ := cond_inv h
          exact doElse v A _ (by rw [hq]; rfl) h (fun hw => nf hw) (fun _ => by rw [hq]; simp only [opR, opRd, hr, andP]) (fun _ hp => List.mem_cons_of_mem _ hp) (fun q' _ hq' => by
            rw [hq] at hq'; cases hq'
            exact ⟨.head _, hs⟩)
      | n q =>
        rw [hq] at h
        simp only [drawn1] at h
        cases hr : newR q fr.ev with
        | none => rw [hr] at h; cases h
        | some bm =>
          obtain ⟨b, mk⟩ := bm
          rw [hr] at h
          simp only [dN] at h
          exact doElse (mk A.next) (A.push b) pend (by rw [hq]; rfl) h (fun hw => nf hw) (fun _ => by rw [hq]; simp only [opR, opN, hr, andN]) (fun _ hp => hp) (fun q' _ hq' => by rw [hq] at hq'; cases hq')
      | e q =>
        rw [hq] at h
        simp only [drawn1] at h
        cases hr : effR q M fr.ev A with
        | none => rw [hr] at h; cases h
        | some vA =>
          obtain ⟨v, A1⟩ := vA
          rw [hr] at h
          exact doEff v A1 (by rw [hq]; rfl) h (fun hw => nf hw) (fun _ => by rw [hq]; simp only [opR, opE, hr])
      | call f args =>
        rw [hq] at h
        simp only [drawn1] at h
        cases hr : andC cf A (callR f args fr.ev) with
        | none => rw [hr] at h; cases h
        | some vA =>
          obtain ⟨v, A1⟩ := vA
          rw [hr] at h
          exact doEff v A1 (by rw [hq]; rfl) h (fun hw => nf hw) (fun _ => by rw [hq]; simp only [opR, opC, hr])
end
end Go.Proofs.AM

namespace Go.Proofs.AM
open Go
set_option linter.unusedSimpArgs false
set_option linter.unusedVariables false

/-! ### States whose abstract heap is told block by block -/
structure SimB (P : Program) (M : Old) (base : Nat) (μ : Pl) (β : Nat → Blk) (w : World) : Prop where
  le : base ≤ w.heap.size
  old : ∀ b o v, M b o = some v → b < base ∧ ∃ c, w.cell? ⟨b, o, none⟩ = some c ∧ VR μ v c
  blk : ∀ i p, μ i = some p → (β i).live → base ≤ p.1 ∧ ∃ obj, w.heap[p.1]? = some obj ∧ BR P μ p (β i) obj
  inj : ∀ i j p q, μ i = some p → μ j = some q → (β i).live → (β j).live → p.1 = q.1 → i = j

structure StepX (P : Program) (M : Old) (base : Nat) (μ : Pl) (β : Nat → Blk) (w : World) (μ' : Pl) (β' : Nat → Blk) (w' : World) : Prop where
  ext : μ.le μ'
  sim : SimB P M base μ' β' w'
  img : ∀ i p, μ' i = some p → (β' i).live → (∃ j q, μ j = some q ∧ (β j).live ∧ q.1 = p.1) ∨ w.heap.size ≤ p.1
  frame : ∀ c, c < w.heap.size → (∀ j q, μ j = some q → (β j).live → q.1 ≠ c) → w'.heap[c]? = w.heap[c]?
  size : w.heap.size ≤ w'.heap.size
  os : w'.os = w.os
  tape : w'.tape = w.tape
  output : w'.output = w.output

section
variable {P : Program} {M : Old} {base : Nat} {μ μ' μ'' : Pl} {A A' : AH} {β β' β'' : Nat → Blk} {w w' w'' : World}

theorem Sim.toB (h : Sim P M base μ A w) : SimB P M base μ A.blk w := ⟨h.le, h.old, h.blk, h.inj⟩
theorem SimB.toSim (h : SimB P M base μ A.blk w) (hw : A.WF) : Sim P M base μ A w := ⟨h.le, h.old, h.blk, h.inj, hw⟩
/-- Fewer blocks. -/
theorem SimB.sub (h : SimB P M base μ β w) (hb : ∀ i p, μ i = some p → (β' i).live → β' i = β i) : SimB P M base μ β' w where
  le := h.le
  old := h.old
  blk := fun i p hp hl => by
    have e := hb i p hp hl
    rw [e] at hl ⊢
    exact h.blk i p hp hl
  inj := fun i j p q hp hq hi hj he => by
    rw [hb i p hp hi] at hi
    rw [hb j q hq hj] at hj
    exact h.inj i j p q hp hq hi hj he
theorem SimB.world (h : SimB P M base μ β w) (hw : w'.heap = w.heap) : SimB P M base μ β w' where
  le := by rw [hw]; exact h.le
  old := fun b o v hm => by
    obtain ⟨h1, c, h2, h3⟩ := h.old b o v hm
    exact ⟨h1, c, by rw [World.cell?_of_block (w := w) (a := ⟨b, o, none⟩) (by rw [hw])]; exact h2, h3⟩
  blk := fun i p hp hl => by rw [hw]; exact h.blk i p hp hl
  inj := h.inj
theorem SimB.lt (h : SimB P M base μ β w) {i : Nat} {p : Nat × Nat} (hp : μ i = some p) (hl : (β i).live) : p.1 < w.heap.size := by
  obtain ⟨_, obj, ho, _⟩ := h.blk i p hp hl
  exact (Array.getElem?_eq_some_iff.1 ho).1

theorem StepX.refl (S : SimB P M base μ β w) : StepX P M base μ β w μ β w :=
  ⟨.refl μ, S, fun i p h hl => .inl ⟨i, p, h, hl, rfl⟩, fun _ _ _ => rfl, Nat.le_refl _, rfl, rfl, rfl⟩
theorem StepX.trans (h : StepX P M base μ β w μ' β' w') (k : StepX P M base μ' β' w' μ'' β'' w'') : StepX P M base μ β w μ'' β'' w'' where
  ext := h.ext.trans k.ext
  sim := k.sim
  img := fun i p hp hl => by
    rcases k.img i p hp hl with ⟨j, q, h1, h2, h3⟩ | h1
    · rcases h.img j q h1 h2 with ⟨j', q', g1, g2, g3⟩ | g1
      · exact .inl ⟨j', q', g1, g2, g3.trans h3⟩
      · exact .inr (by omega)
    · exact .inr (Nat.le_trans h.size h1)
  frame := fun c hc hn => by
    rw [k.frame c (Nat.lt_of_lt_of_le hc h.size) (fun j q h1 h2 he => ?_), h.frame c hc hn]
    rcases h.img j q h1 h2 with ⟨j', q', g1, g2, g3⟩ | g1
    · exact hn j' q' g1 g2 (g3.trans he)
    · omega
  size := Nat.le_trans h.size k.size
  os := k.os.trans h.os
  tape := k.tape.trans h.tape
  output := k.output.trans h.output

/-- A block comes to be that the abstract heap holds already. -/
theorem stepX_new (S : SimB P M base μ β w) {x : Nat} {p : Nat × Nat} {b : Blk} {obj : Obj} (hx : μ x = none) (hb : β x = b) (hp : p.1 = w.heap.size) (hh : w'.heap = w.heap.push obj) (ho : w'.os = w.os) (ht : w'.tape = w.tape) (hu : w'.output = w.output)
    (hbr : BR P (μ.add x p) p b obj) : StepX P M base μ β w (μ.add x p) β w' := by
  have hle := Pl.le_add (p := p) hx
  have hget : ∀ c, c < w.heap.size → w'.heap[c]? = w.heap[c]? := fun c hc => by rw [hh, Array.getElem?_push, if_neg (by omega)]
  have hsz : w'.heap.size = w.heap.size + 1 := by rw [hh]; simp
  have hmu : ∀ j q, (μ.add x p) j = some q → (j = x ∧ q = p) ∨ (j ≠ x ∧ μ j = some q) := by
    intro j q hq
    unfold Pl.add at hq
    by_cases e : j = x
    · rw [if_pos e] at hq; cases hq; exact .inl ⟨e, rfl⟩
    · rw [if_neg e] at hq; exact .inr ⟨e, hq⟩
  refine ⟨hle, ⟨by have := S.le; omega, ?_, ?_, ?_⟩, ?_, fun c hc _ => hget c hc, by omega, ho, ht, hu⟩
  · intro b o v hm
    obtain ⟨h1, c, h2, h3⟩ := S.old b o v hm
    exact ⟨h1, c, by rw [World.cell?_of_block (w := w) (a := ⟨b, o, none⟩) (hget b (Nat.lt_of_lt_of_le h1 S.le))]; exact h2, h3.mono hle⟩
  · intro i q hq hl
    rcases hmu i q hq with ⟨rfl, rfl⟩ | ⟨h1, h2⟩
    · refine ⟨by have := S.le; omega, obj, by rw [hh, hp, Array.getElem?_push, if_pos rfl], by rw [hb]; exact hbr⟩
    · obtain ⟨g1, o', g2, g3⟩ := S.blk i q h2 hl
      exact ⟨g1, o', by rw [hget _ (Array.getElem?_eq_some_iff.1 g2).1]; exact g2, g3.mono hle⟩
  · intro i j q r hq hr hli hlj he
    rcases hmu i q hq with ⟨rfl, rfl⟩ | ⟨h1, h2⟩ <;> rcases hmu j r hr with ⟨rfl, rfl⟩ | ⟨h3, h4⟩
    · rfl
    · have := S.lt h4 hlj; omega
    · have := S.lt h2 hli; omega
    · exact S.inj i j q r h2 h4 hli hlj he
  · intro i q hq hl
    rcases hmu i q hq with ⟨rfl, rfl⟩ | ⟨h1, h2⟩
    · exact .inr (by omega)
    · exact .inl ⟨i, q, h2, hl, rfl⟩

/-- A step of a part of the heap: the blocks 'ex' are not seen by it. -/
theorem Step.more (h : Step P M base μ A w μ' A' w') (S : SimB P M base μ β w) (hsub : ∀ i, (A.blk i).live → β i = A.blk i) {ex : Nat → Prop} (hex : ∀ i, ex i → A'.next ≤ i ∧ ¬ (A.blk i).live)
    (hnew : ∀ i, β' i = A'.blk i ∨ (ex i ∧ β' i = β i)) : StepX P M base μ β w μ' β' w' := by
  have hdom : ∀ i p, ex i → μ' i = some p → μ i = some p := fun i p he hp => by
    rcases h.dom i p hp with g | g
    · exact g
    · have := (hex i he).1; omega
  have hoff : ∀ i p, ex i → μ i = some p → (β i).live → ∀ j q, μ j = some q → (A.blk j).live → q.1 ≠ p.1 := fun i p he hp hl j q hq hlj heq => by
    have := S.inj j i q p hq hp (by rw [hsub j hlj]; exact hlj) hl heq
    subst this
    exact (hex j he).2 hlj
  refine ⟨h.ext, ⟨h.sim.le, h.sim.old, ?_, ?_⟩, ?_, ?_, h.size, h.os, h.tape, h.output⟩
  · intro i p hp hl
    rcases hnew i with e | ⟨hx, e⟩
    · rw [e] at hl ⊢; exact h.sim.blk i p hp hl
    · rw [e] at hl ⊢
      have hp' := hdom i p hx hp
      obtain ⟨g1, obj, g2, g3⟩ := S.blk i p hp' hl
      exact ⟨g1, obj, by rw [h.frame p.1 (S.lt hp' hl) (hoff i p hx hp' hl)]; exact g2, g3.mono h.ext⟩
  · intro i j p q hp hq hli hlj he
    have cross : ∀ i j p q, μ' i = some p → μ' j = some q → (A'.blk i).live → ex j → (β j).live → p.1 = q.1 → False := by
      intro i j p q hp hq hli hx hlj he
      have hq' := hdom j q hx hq
      rcases h.img i p hp hli with ⟨j', q', g1, g2, g3⟩ | g1
      · exact hoff j q hx hq' hlj j' q' g1 g2 (g3.trans he)
      · have := S.lt hq' hlj; omega
    rcases hnew i with e | ⟨hx, e⟩ <;> rcases hnew j with e' | ⟨hx', e'⟩ <;> rw [e] at hli <;> rw [e'] at hlj
    · exact h.sim.inj i j p q hp hq hli hlj he
    · exact (cross i j p q hp hq hli hx' hlj he).elim
    · exact (cross j i q p hq hp hlj hx hli he.symm).elim
    · exact S.inj i j p q (hdom i p hx hp) (hdom j q hx' hq) hli hlj he
  · intro i p hp hl
    rcases hnew i with e | ⟨hx, e⟩
    · rw [e] at hl
      rcases h.img i p hp hl with ⟨j, q, g1, g2, g3⟩ | g1
      · exact .inl ⟨j, q, g1, by rw [hsub j g2]; exact g2, g3⟩
      · exact .inr g1
    · rw [e] at hl
      exact .inl ⟨i, p, hdom i p hx hp, hl, rfl⟩
  · intro c hc hn
    exact h.frame c hc fun j q hq hl => hn j q hq (by rw [hsub j hl]; exact hl)
end
end Go.Proofs.AM

namespace Go.Proofs.AM
open Go
set_option linter.unusedSimpArgs false
set_option linter.unusedVariables false
set_option linter.unusedSectionVars false

theorem ecnt_succ {ios : List Iop} {k : Nat} {io : Iop} (h : ios[k]? = some io) : ecnt ios (k + 1) = ecnt ios k + if io.op.eff then 1 else 0 := by
  unfold ecnt
  have hlt : k < ios.length := (List.getElem?_eq_some_iff.1 h).1
  rw [List.take_add_one, h, Option.toList_some, List.filter_append, List.length_append]
  cases he : io.op.eff <;> simp [List.filter_cons, he]
theorem ecnt_mono {ios : List Iop} {k k' : Nat} (h : k ≤ k') : ecnt ios k ≤ ecnt ios k' := by
  induction k' with
  | zero => have : k = 0 := by omega
            subst this; exact Nat.le_refl _
  | succ k' ih =>
    by_cases e : k = k' + 1
    · rw [e]; exact Nat.le_refl _
    · refine Nat.le_trans (ih (by omega)) ?_
      cases hk : ios[k']? with
      | none =>
        have : ios.length ≤ k' := by simpa using hk
        unfold ecnt
        rw [List.take_of_length_le this, List.take_of_length_le (by omega)]
        exact Nat.le_refl _
      | some io => rw [ecnt_succ hk]; omega
/-- The place of each effect. -/
theorem ecnt_place {ios : List Iop} {j : Nat} : ∀ (n : Nat), n ≤ ios.length → j < ecnt ios n → ∃ k io, k < n ∧ ios[k]? = some io ∧ io.op.eff = true ∧ ecnt ios k = j := by
  intro n
  induction n with
  | zero => intro _ h; simp [ecnt] at h
  | succ n ih =>
    intro hn h
    have hk : ios[n]? = some ios[n] := List.getElem?_eq_getElem (by omega)
    by_cases hj : j < ecnt ios n
    · obtain ⟨k, io, h1, h2⟩ := ih (by omega) hj
      exact ⟨k, io, by omega, h2⟩
    · rw [ecnt_succ hk] at h
      cases he : ios[n].op.eff with
      | true => rw [he] at h; simp at h; exact ⟨n, ios[n], by omega, hk, he, by omega⟩
      | false => rw [he] at h; simp at h; omega

section
variable {M : Old} {cf : CallF} {ios : List Iop} {F : Nat → Fr} {B : Nat → AH} {V : Nat → Value} {Hs : Nat → AH}

def NB (ios : List Iop) (F : Nat → Fr) (k : Nat) (b : Blk) : Prop := ∃ io q mk, ios[k]? = some io ∧ wants io.g (F k) = true ∧ io.op = .n q ∧ newR q (F k).ev = some (b, mk)

theorem NB.lt {k : Nat} {b : Blk} (h : NB ios F k b) : k < ios.length := by
  obtain ⟨io, q, mk, h, _⟩ := h
  exact (List.getElem?_eq_some_iff.1 h).1

variable (hm : CallMono cf) (tr : Trace M cf ios 0 F B V Hs) (h0 : Hs 0 = B 0) (wf0 : (B 0).WF)
include tr

theorem NB.push {k : Nat} {b : Blk} (h : NB ios F k b) : B (k + 1) = (B k).push b := by
  obtain ⟨io, q, mk, h1, h2, h3, h4⟩ := h
  have := tr.run k io h1 h2
  rw [h3] at this
  simp only [opR, opN, h4, andN, Option.some.injEq, Prod.mk.injEq] at this
  exact this.2.symm
omit tr in
theorem NB.ecnt_eq {k : Nat} {b : Blk} (h : NB ios F k b) : ecnt ios (k + 1) = ecnt ios k := by
  obtain ⟨io, q, mk, h1, h2, h3, h4⟩ := h
  rw [ecnt_succ h1, h3]; rfl

include hm
theorem tr_grow {k : Nat} (hk : k < ios.length) : Grow (B k) (B (k + 1)) := by
  have h : ios[k]? = some ios[k] := List.getElem?_eq_getElem hk
  cases hw : wants ios[k].g (F k) with
  | false => rw [(tr.idle k _ h hw).2]; exact .refl _
  | true => exact op_next hm (tr.run k _ h hw)
theorem tr_grows {k k' : Nat} (h : k ≤ k') (hk : k' ≤ ios.length) : Grow (B k) (B k') := by
  induction k' with
  | zero => have : k = 0 := by omega
            subst this; exact .refl _
  | succ k' ih =>
    by_cases e : k = k' + 1
    · rw [e]; exact .refl _
    · exact .trans (ih (by omega) (by omega)) (tr_grow hm tr (by omega))
include wf0
theorem tr_wf {k : Nat} (hk : k ≤ ios.length) : (B k).WF := (tr_grows hm tr (Nat.zero_le k) hk).2 wf0
omit wf0

theorem NB.order {k k' : Nat} {b b' : Blk} (h : NB ios F k b) (h' : NB ios F k' b') (hlt : k < k') : (B k).next < (B k').next := by
  have := (tr_grows hm tr (show k + 1 ≤ k' by omega) (Nat.le_of_lt h'.lt)).1
  rw [h.push tr] at this
  simp only [AH.push] at this
  omega
theorem NB.unique {k k' : Nat} {b b' : Blk} (h : NB ios F k b) (h' : NB ios F k' b') (he : (B k).next = (B k').next) : k = k' ∧ b = b' := by
  have hk : k = k' := by
    rcases Nat.lt_trichotomy k k' with g | g | g
    · have := h.order hm tr h' g; omega
    · exact g
    · have := h'.order hm tr h g; omega
  subst hk
  refine ⟨rfl, ?_⟩
  obtain ⟨io, q, mk, h1, h2, h3, h4⟩ := h
  obtain ⟨io', q', mk', g1, g2, g3, g4⟩ := h'
  rw [h1] at g1
  cases g1
  rw [h3] at g3
  cases g3
  rw [h4] at g4
  cases g4
  rfl
omit hm tr

open Classical in
/-- The heap behind j effects, with the blocks that are made later on. -/
noncomputable def gam (ios : List Iop) (F : Nat → Fr) (B : Nat → AH) (Hs : Nat → AH) (j : Nat) (i : Nat) : Blk :=
  if h : ∃ b k, NB ios F k b ∧ j ≤ ecnt ios k ∧ (B k).next = i then h.choose else (Hs j).blk i

include hm tr
theorem gam_late {j k : Nat} {b : Blk} (h : NB ios F k b) (hj : j ≤ ecnt ios k) : gam ios F B Hs j (B k).next = b := by
  unfold gam
  have hex : ∃ b' k', NB ios F k' b' ∧ j ≤ ecnt ios k' ∧ (B k').next = (B k).next := ⟨b, k, h, hj, rfl⟩
  rw [dif_pos hex]
  obtain ⟨k', g1, g2, g3⟩ := hex.choose_spec
  exact (g1.unique hm tr h g3).2
omit hm tr
theorem gam_else {j i : Nat} (h : ¬ ∃ b k, NB ios F k b ∧ j ≤ ecnt ios k ∧ (B k).next = i) : gam ios F B Hs j i = (Hs j).blk i := by
  unfold gam
  rw [dif_neg h]

include hm tr h0
/-- The heap ahead of an operation: the one behind the last effect, with what was made since. -/
theorem tr_blk : ∀ (k : Nat), k ≤ ios.length → ∀ i, (∃ b k', k' < k ∧ NB ios F k' b ∧ ecnt ios k' = ecnt ios k ∧ (B k').next = i ∧ (B k).blk i = b) ∨
    ((∀ b k', k' < k → NB ios F k' b → ecnt ios k' = ecnt ios k → (B k').next ≠ i) ∧ (B k).blk i = (Hs (ecnt ios k)).blk i) := by
  intro k
  induction k with
  | zero => intro _ i; exact .inr ⟨fun b k' h => by omega, by rw [ecnt_zero, h0]⟩
  | succ k ih =>
    intro hk i
    have hio : ios[k]? = some ios[k] := List.getElem?_eq_getElem (by omega)
    have hec := ecnt_succ hio
    cases he : ios[k].op.eff with
    | true =>
      rw [he] at hec
      simp only [if_true] at hec
      refine .inr ⟨fun b k' h1 h2 h3 => ?_, ?_⟩
      · have := ecnt_mono (ios := ios) (show k' ≤ k by omega); omega
      · have := tr.eff k _ hio he
        rw [hec, ← this, Nat.zero_add]
    | false =>
      rw [he] at hec
      simp only [Bool.false_eq_true, if_false, Nat.add_zero] at hec
      have same : B (k + 1) = B k → (∀ b, ¬ NB ios F k b) → ((∃ b k', k' < k + 1 ∧ NB ios F k' b ∧ ecnt ios k' = ecnt ios (k + 1) ∧ (B k').next = i ∧ (B (k + 1)).blk i = b) ∨
          ((∀ b k', k' < k + 1 → NB ios F k' b → ecnt ios k' = ecnt ios (k + 1) → (B k').next ≠ i) ∧ (B (k + 1)).blk i = (Hs (ecnt ios (k + 1))).blk i)) := fun e hn => by
        rcases ih (by omega) i with ⟨b, k', g1, g2, g3, g4, g5⟩ | ⟨g1, g2⟩
        · exact Or.inl ⟨b, k', by omega, g2, by rw [hec]; exact g3, g4, by rw [e]; exact g5⟩
        · exact Or.inr ⟨fun b k' h1 h2 h3 => by
            by_cases hkk : k' = k
            · subst hkk; exact absurd h2 (hn b)
            · exact g1 b k' (by omega) h2 (by rw [← hec]; exact h3), by rw [e, hec]; exact g2⟩
      cases hw : wants ios[k].g (F k) with
      | false =>
        exact same (tr.idle k _ hio hw).2 (fun b hb => by
          obtain ⟨io, q, mk, h1, h2, _⟩ := hb
          rw [hio] at h1; cases h1
          rw [hw] at h2; cases h2)
      | true =>
        have hrun := tr.run k _ hio hw
        cases hq : ios[k].op with
        | p q =>
          refine same ?_ (fun b hb => by
            obtain ⟨io, q', mk, h1, h2, h3, _⟩ := hb
            rw [hio] at h1; cases h1
            rw [hq] at h3; cases h3)
          rw [hq] at hrun
          simp only [opR, opP] at hrun
          cases hr : pureR q (F k).ev with
          | none => rw [hr] at hrun; cases hrun
          | some v => rw [hr] at hrun; simp only [andP, Option.some.injEq, Prod.mk.injEq] at hrun; exact hrun.2.symm
        | r q =>
          refine same ?_ (fun b hb => by
            obtain ⟨io, q', mk, h1, h2, h3, _⟩ := hb
            rw [hio] at h1; cases h1
            rw [hq] at h3; cases h3)
          rw [hq] at hrun
          simp only [opR, opRd] at hrun
          cases hr : readR q M (F k).ev (B k) with
          | none => rw [hr] at hrun; cases hrun
          | some v => rw [hr] at hrun; simp only [andP, Option.some.injEq, Prod.mk.injEq] at hrun; exact hrun.2.symm
        | e q => rw [hq] at he; cases he
        | call f args => rw [hq] at he; cases he
        | n q =>
          rw [hq] at hrun
          simp only [opR, opN] at hrun
          cases hr : newR q (F k).ev with
          | none => rw [hr] at hrun; cases hrun
          | some bm =>
            obtain ⟨b, mk⟩ := bm
            have hnb : NB ios F k b := ⟨ios[k], q, mk, hio, hw, hq, hr⟩
            have hpush := hnb.push tr
            by_cases hi : i = (B k).next
            · exact .inl ⟨b, k, by omega, hnb, by rw [hec], hi.symm, by rw [hpush, blk_push, if_pos hi]⟩
            · rcases ih (by omega) i with ⟨b', k', g1, g2, g3, g4, g5⟩ | ⟨g1, g2⟩
              · exact .inl ⟨b', k', by omega, g2, by rw [hec]; exact g3, g4, by rw [hpush, blk_push, if_neg hi]; exact g5⟩
              · refine .inr ⟨fun b' k' h1 h2 h3 => ?_, by rw [hpush, blk_push, if_neg hi, hec]; exact g2⟩
                by_cases hkk : k' = k
                · subst hkk; exact fun e => hi e.symm
                · exact g1 b' k' (by omega) h2 (by rw [← hec]; exact h3)

include wf0
/-- The blocks ahead of an operation are among those of 'gam'. -/
theorem gam_sub {k : Nat} (hk : k ≤ ios.length) (i : Nat) (hl : ((B k).blk i).live) : gam ios F B Hs (ecnt ios k) i = (B k).blk i := by
  rcases tr_blk hm tr h0 k hk i with ⟨b, k', g1, g2, g3, g4, g5⟩ | ⟨g1, g2⟩
  · rw [g5, ← g4]; exact gam_late hm tr g2 (by omega)
  · by_cases hex : ∃ b k', NB ios F k' b ∧ ecnt ios k ≤ ecnt ios k' ∧ (B k').next = i
    · obtain ⟨b, k', h1, h2, h3⟩ := hex
      exfalso
      by_cases hlt : k' < k
      · have := ecnt_mono (ios := ios) (Nat.le_of_lt hlt)
        exact g1 b k' hlt h1 (by omega) h3
      · have := (tr_grows hm tr (show k ≤ k' by omega) (Nat.le_of_lt h1.lt)).1
        exact tr_wf hm tr wf0 hk i (by omega) hl
    · rw [g2, gam_else hex]

/-- Where the heap behind j effects stands. -/
theorem tr_at {j : Nat} (hj : j ≤ ecnt ios ios.length) : ∃ m, m ≤ ios.length ∧ Hs j = B m ∧ ecnt ios m = j ∧ ∀ k', j ≤ ecnt ios k' → m ≤ k' := by
  cases j with
  | zero => exact ⟨0, Nat.zero_le _, h0, rfl, fun k' _ => Nat.zero_le _⟩
  | succ j =>
    obtain ⟨k, io, h1, h2, h3, h4⟩ := ecnt_place ios.length (Nat.le_refl _) (show j < ecnt ios ios.length by omega)
    refine ⟨k + 1, by omega, ?_, by rw [ecnt_succ h2, h3, h4]; rfl, fun k' hk' => ?_⟩
    rotate_left
    · rcases Nat.lt_or_ge k k' with g | g
      · exact g
      · have := ecnt_mono (ios := ios) g; omega
    have := tr.eff k io h2 h3
    rw [Nat.zero_add, h4] at this
    exact this
theorem gam_hs {j : Nat} (hj : j ≤ ecnt ios ios.length) (i : Nat) (hl : ((Hs j).blk i).live) : gam ios F B Hs j i = (Hs j).blk i := by
  obtain ⟨m, h1, h2, h3, _⟩ := tr_at hm tr h0 wf0 hj
  rw [h2] at hl ⊢
  rw [← h3]
  exact gam_sub hm tr h0 wf0 h1 i hl
theorem hs_wf {j : Nat} (hj : j ≤ ecnt ios ios.length) : (Hs j).WF := by
  obtain ⟨m, h1, h2, h3, _⟩ := tr_at hm tr h0 wf0 hj
  rw [h2]; exact tr_wf hm tr wf0 h1

/-- Behind one more effect. -/
theorem gam_succ {k : Nat} {io : Iop} (hk : ios[k]? = some io) (he : io.op.eff = true) (i : Nat) :
    gam ios F B Hs (ecnt ios k + 1) i = (B (k + 1)).blk i ∨ ((∃ b k', k < k' ∧ NB ios F k' b ∧ (B k').next = i) ∧ gam ios F B Hs (ecnt ios k + 1) i = gam ios F B Hs (ecnt ios k) i) := by
  by_cases hex : ∃ b k', NB ios F k' b ∧ ecnt ios k + 1 ≤ ecnt ios k' ∧ (B k').next = i
  · obtain ⟨b, k', h1, h2, h3⟩ := hex
    right
    have hlt : k < k' := by
      rcases Nat.lt_or_ge k k' with g | g
      · exact g
      · have := ecnt_mono (ios := ios) g; omega
    refine ⟨⟨b, k', hlt, h1, h3⟩, ?_⟩
    rw [← h3, gam_late hm tr h1 h2, gam_late hm tr h1 (by omega)]
  · left
    rw [gam_else hex]
    have := tr.eff k io hk he
    rw [Nat.zero_add] at this
    rw [this]

/-- In the end. -/
theorem gam_end (i : Nat) : ((gam ios F B Hs (ecnt ios ios.length) i).live → (B ios.length).blk i = gam ios F B Hs (ecnt ios ios.length) i) ∧ gam ios F B Hs (ecnt ios ios.length) i = (B ios.length).blk i := by
  have key : gam ios F B Hs (ecnt ios ios.length) i = (B ios.length).blk i := by
    rcases tr_blk hm tr h0 ios.length (Nat.le_refl _) i with ⟨b, k', g1, g2, g3, g4, g5⟩ | ⟨g1, g2⟩
    · rw [g5, ← g4]; exact gam_late hm tr g2 (by omega)
    · rw [g2]
      refine gam_else fun ⟨b, k', h1, h2, h3⟩ => ?_
      have := ecnt_mono (ios := ios) (Nat.le_of_lt h1.lt)
      exact g1 b k' h1.lt h1 (by omega) h3
  exact ⟨fun _ => key.symm, key⟩
end
end Go.Proofs.AM

namespace Go.Proofs.AM
open Go
set_option linter.unusedSimpArgs false
set_option linter.unusedVariables false
set_option linter.unusedSectionVars false

/-! ### Sameness by sight -/
theorem sameF_eq {x y : Value} (h : sameF x y = true) : x = y := by
  unfold sameF at h
  split at h
  · rw [eq_of_beq h]
  · rename_i k a k' b
    by_cases e : k = k'
    · subst e; simp [eqI_eq] at h; rw [h]
    · simp [e] at h
  · rw [eq_of_beqBA h]
  · rw [of_decide_eq_true h]
  · rename_i a n c b m d
    obtain ⟨h1, h⟩ := cond_true_inv h
    obtain ⟨h2, h3⟩ := cond_true_inv h
    rw [of_decide_eq_true h1, Nat.eq_of_beq_eq_true h2, Nat.eq_of_beq_eq_true h3]
  · rw [of_decide_eq_true h]
  · rfl
  · rfl
  · cases h
theorem sameL_eq {f : Value → Value → Bool} (hf : ∀ x y, f x y = true → x = y) : ∀ {l m : List Value}, sameL f l m = true → l = m
  | [], [], _ => rfl
  | a :: l, b :: m, h => by
    simp only [sameL] at h
    obtain ⟨h1, h2⟩ := cond_true_inv h
    rw [hf a b h1, sameL_eq hf h2]
  | [], b :: m, h => by cases h
  | a :: l, [], h => by cases h
theorem sameA_eq {x y : Value} (h : sameA x y = true) : x = y := by
  unfold sameA at h
  split at h
  · rw [Array.toList_inj.1 (sameL_eq (fun _ _ => sameF_eq) h)]
  · exact sameF_eq h
theorem sameV_eq {x y : Value} (h : sameV x y = true) : x = y := by
  unfold sameV at h
  split at h
  · rw [Array.toList_inj.1 (sameL_eq (fun _ _ => sameA_eq) h)]
  · exact sameA_eq h

/-! ### What the temporaries hold -/
def WritesT (ios : List Iop) (t k : Nat) : Prop := ∃ io, ios[k]? = some io ∧ io.dst = some t
def ValOf (ios : List Iop) (V : Nat → Value) (F0 : Fr) (L : Nat → Prop) (G : Fr) : Prop :=
  ∀ t, (∀ k, L k → WritesT ios t k → (∀ k', L k' → WritesT ios t k' → k' ≤ k) → G.ev (.tmp t) = V k) ∧ ((∀ k, L k → ¬ WritesT ios t k) → G.ev (.tmp t) = F0.ev (.tmp t))

theorem has_max (W : Nat → Prop) : ∀ n, (∀ k, k < n → ¬ W k) ∨ ∃ k, k < n ∧ W k ∧ ∀ k', k' < n → W k' → k' ≤ k := by
  intro n
  induction n with
  | zero => exact .inl fun k h => by omega
  | succ n ih =>
    by_cases hw : W n
    · exact .inr ⟨n, by omega, hw, fun k' h _ => by omega⟩
    · rcases ih with h | ⟨k, h1, h2, h3⟩
      · left
        intro k hk
        by_cases e : k = n
        · subst e; exact hw
        · exact h k (by omega)
      · right
        refine ⟨k, by omega, h2, fun k' hk' hw' => ?_⟩
        by_cases e : k' = n
        · subst e; exact absurd hw' hw
        · exact h3 k' (by omega) hw'

theorem WritesT.lt {ios : List Iop} {t k : Nat} (h : WritesT ios t k) : k < ios.length := by
  obtain ⟨io, h, _⟩ := h
  exact (List.getElem?_eq_some_iff.1 h).1

theorem ValOf.eq {ios : List Iop} {V : Nat → Value} {F0 G G' : Fr} {L L' : Nat → Prop} (h : ValOf ios V F0 L G) (h' : ValOf ios V F0 L' G') {t : Nat} (hl : ∀ k, WritesT ios t k → (L k ↔ L' k)) : G.ev (.tmp t) = G'.ev (.tmp t) := by
  rcases has_max (fun k => L k ∧ WritesT ios t k) ios.length with hn | ⟨k, h1, ⟨h2, h3⟩, h4⟩
  · have a1 : ∀ k, L k → ¬ WritesT ios t k := fun k hk hw => hn k hw.lt ⟨hk, hw⟩
    rw [(h t).2 a1, (h' t).2 fun k hk hw => a1 k ((hl k hw).2 hk) hw]
  · rw [(h t).1 k h2 h3 fun k' g1 g2 => h4 k' g2.lt ⟨g1, g2⟩, (h' t).1 k ((hl k h3).1 h2) h3 fun k' g1 g2 => h4 k' g2.lt ⟨(hl k' g2).2 g1, g2⟩]

theorem ev_putD (d : Option Nat) (v : Value) (G : Fr) (t : Nat) : (putD d v G).ev (.tmp t) = if d = some t then v else G.ev (.tmp t) := by
  cases d with
  | none => simp [putD]
  | some d =>
    simp only [putD, Fr.ev, T.get_set, Option.some.injEq]
    by_cases e : t = d
    · subst e; rw [if_pos rfl, if_pos rfl]; rfl
    · rw [if_neg e, if_neg (fun h => e h.symm)]

theorem ValOf.put {ios : List Iop} {V : Nat → Value} {F0 G : Fr} {L : Nat → Prop} (h : ValOf ios V F0 L G) {k : Nat} {io : Iop} (hk : ios[k]? = some io) (hmax : ∀ t k', io.dst = some t → L k' → WritesT ios t k' → k' ≤ k) :
    ValOf ios V F0 (fun m => L m ∨ m = k) (putD io.dst (V k) G) := by
  intro t
  rw [ev_putD]
  by_cases hd : io.dst = some t
  · rw [if_pos hd]
    refine ⟨fun k1 g1 g2 g3 => ?_, fun hn => absurd ⟨io, hk, hd⟩ (hn k (.inr rfl))⟩
    have h1 := g3 k (.inr rfl) ⟨io, hk, hd⟩
    rcases g1 with g1 | g1
    · have := hmax t k1 hd g1 g2
      rw [show k1 = k by omega]
    · rw [g1]
  · rw [if_neg hd]
    have hnk : ¬ WritesT ios t k := fun ⟨io', g1, g2⟩ => by rw [hk] at g1; cases g1; exact hd g2
    refine ⟨fun k1 g1 g2 g3 => ?_, fun hn => (h t).2 fun k1 g1 => hn k1 (.inl g1)⟩
    rcases g1 with g1 | g1
    · exact (h t).1 k1 g1 g2 fun k' a b => g3 k' (.inl a) b
    · subst g1; exact absurd g2 hnk

theorem ValOf.weaken {ios : List Iop} {V : Nat → Value} {F0 G : Fr} {L L' : Nat → Prop} (h : ValOf ios V F0 L G) (hl : ∀ k, L k ↔ L' k) : ValOf ios V F0 L' G := by
  intro t
  refine ⟨fun k g1 g2 g3 => (h t).1 k ((hl k).2 g1) g2 fun k' a b => g3 k' ((hl k').1 a) b, fun hn => (h t).2 fun k g => hn k ((hl k).1 g)⟩

/-- The frames of a trace. -/
theorem canon_val {M : Old} {cf : CallF} {ios : List Iop} {F : Nat → Fr} {B : Nat → AH} {V : Nat → Value} {Hs : Nat → AH} {j : Nat} (tr : Trace M cf ios j F B V Hs) : ∀ k, k ≤ ios.length → ValOf ios V (F 0) (fun m => m < k) (F k) := by
  intro k
  induction k with
  | zero => intro _ t; exact ⟨fun k h => by omega, fun _ => rfl⟩
  | succ k ih =>
    intro hk
    have hio : ios[k]? = some ios[k] := List.getElem?_eq_getElem (by omega)
    rw [tr.next k _ hio]
    exact ((ih (by omega)).put hio fun t k' _ h _ => by omega).weaken fun m => by omega

/-! ### Orders -/
def Closed (ops : List Oper) (L : Nat → Prop) : Prop := ∀ k o e, ops[k]? = some o → L k → e ∈ o.after.toList → Region.binds .any e = true → L e.on
def ReadyP (ops : List Oper) (L : Nat → Prop) (k : Nat) : Prop := ¬ L k ∧ ∀ o e, ops[k]? = some o → e ∈ o.after.toList → Region.binds .any e = true → L e.on
theorem Bef.closed {ops : List Oper} {L : Nat → Prop} (hc : Closed ops L) {i k : Nat} (h : Bef ops i k) : L k → L i := by
  induction h with
  | edge ho he hb => exact fun hk => hc _ _ _ ho hk he hb
  | trans _ _ ih1 ih2 => exact fun hk => ih1 (ih2 hk)
theorem Bef.ready {ops : List Oper} {L : Nat → Prop} (hc : Closed ops L) {i k : Nat} (h : Bef ops i k) : ReadyP ops L k → L i := by
  induction h with
  | edge ho he hb => exact fun hk => hk.2 _ _ ho he hb
  | trans h1 _ _ ih2 => exact fun hk => h1.closed hc (ih2 hk)

/-! ### Effects counted -/
theorem effsOf_count (ios : List Iop) (j : Nat) (hj : j ≤ ecnt ios ios.length) : ∀ (l : List Iop) (k0 : Nat), ios.drop k0 = l → (effsOf k0 l).countP (fun e => decide (ecnt ios e < j)) + ecnt ios k0 = max j (ecnt ios k0) := by
  intro l
  induction l with
  | nil =>
    intro k0 h
    have : ios.length ≤ k0 := by simpa using h
    have h2 : ecnt ios ios.length ≤ ecnt ios k0 := ecnt_mono this
    simp [effsOf]
    omega
  | cons io l ih =>
    intro k0 h
    have hk : ios[k0]? = some io := by
      have := congrArg (·[0]?) h
      simpa using this
    have hd : ios.drop (k0 + 1) = l := by rw [← List.drop_drop, h]; rfl
    have := ih (k0 + 1) hd
    have hs := ecnt_succ hk
    simp only [effsOf]
    cases he : io.op.eff with
    | true =>
      rw [he] at hs
      simp only [if_true] at hs
      rw [cond_true, List.countP_cons]
      by_cases hlt : ecnt ios k0 < j
      · simp only [hlt, decide_true, if_true]; omega
      · simp only [hlt, decide_false, Bool.false_eq_true, if_false]; omega
    | false =>
      rw [he] at hs
      simp only [Bool.false_eq_true, if_false] at hs
      rw [cond_false]
      omega
theorem effsOf_mem : ∀ (l : List Iop) (k0 e : Nat), e ∈ effsOf k0 l → ∃ i io, e = k0 + i ∧ l[i]? = some io ∧ io.op.eff = true
  | [], k0, e, h => by cases h
  | io :: l, k0, e, h => by
    simp only [effsOf] at h
    cases he : io.op.eff with
    | true =>
      rw [he, cond_true] at h
      rcases List.mem_cons.1 h with rfl | h
      · exact ⟨0, io, rfl, rfl, he⟩
      · obtain ⟨i, io', h1, h2, h3⟩ := effsOf_mem l (k0 + 1) e h
        exact ⟨i + 1, io', by omega, by simpa using h2, h3⟩
    | false =>
      rw [he, cond_false] at h
      obtain ⟨i, io', h1, h2, h3⟩ := effsOf_mem l (k0 + 1) e h
      exact ⟨i + 1, io', by omega, by simpa using h2, h3⟩
theorem effsOf_windows (mk es : List Nat) : ∀ (l : List Iop) (k0 k1 : Nat), effsOf k1 (windows mk es k0 l) = effsOf k1 l
  | [], _, _ => rfl
  | io :: l, k0, k1 => by simp only [windows, effsOf, effsOf_windows mk es l]

theorem lo_le {ops : List Oper} {ios : List Iop} {L : Nat → Prop} {j k : Nat} (hj : j ≤ ecnt ios ios.length) (hc : Closed ops L) (hr : ReadyP ops L k) (heff : ∀ k io, ios[k]? = some io → io.op.eff = true → (L k ↔ ecnt ios k < j)) :
    loOf (masks ops) (effsOf 0 ios) k ≤ j := by
  unfold loOf countIn
  rw [← List.countP_eq_length_filter]
  have h1 : (effsOf 0 ios).countP (fun e => decide (ecnt ios e < j)) = j := by
    have := effsOf_count ios j hj ios 0 (by simp)
    rw [ecnt_zero] at this
    omega
  refine Nat.le_trans (List.countP_mono_left fun e he ht => ?_) (Nat.le_of_eq h1)
  obtain ⟨i, io, h2, h3, h4⟩ := effsOf_mem ios 0 e he
  have h5 : L e := ((masks_spec ops).2 k e ht).ready hc hr
  rw [Nat.zero_add] at h2
  subst h2
  exact decide_eq_true ((heff e io h3 h4).1 h5)
theorem le_hi {ops : List Oper} {ios : List Iop} {L : Nat → Prop} {j k : Nat} (hj : j ≤ ecnt ios ios.length) (hc : Closed ops L) (hr : ReadyP ops L k) (heff : ∀ k io, ios[k]? = some io → io.op.eff = true → (L k ↔ ecnt ios k < j)) :
    j ≤ hiOf (masks ops) (effsOf 0 ios) k := by
  unfold hiOf
  rw [← List.countP_eq_length_filter]
  have h1 : (effsOf 0 ios).countP (fun e => decide (ecnt ios e < j)) = j := by
    have := effsOf_count ios j hj ios 0 (by simp)
    rw [ecnt_zero] at this
    omega
  refine Nat.le_trans (Nat.le_of_eq h1.symm) (List.countP_mono_left fun e he ht => ?_)
  obtain ⟨i, io, h2, h3, h4⟩ := effsOf_mem ios 0 e he
  rw [Nat.zero_add] at h2
  subst h2
  have h5 : L e := (heff e io h3 h4).2 (of_decide_eq_true ht)
  cases hm : ((masks ops).getD e 0).testBit k with
  | false => rfl
  | true => exact absurd (((masks_spec ops).2 e k hm).closed hc h5) hr.1

theorem ecnt_inj {ios : List Iop} {k k' : Nat} {io io' : Iop} (h : ios[k]? = some io) (h' : ios[k']? = some io') (he : io.op.eff = true) (he' : io'.op.eff = true) (e : ecnt ios k = ecnt ios k') : k = k' := by
  have key : ∀ k k' io, ios[k]? = some io → io.op.eff = true → k < k' → ecnt ios k < ecnt ios k' := by
    intro k k' io h he hlt
    have h1 := ecnt_succ h
    rw [he] at h1
    have := ecnt_mono (ios := ios) (show k + 1 ≤ k' by omega)
    simp only [if_true] at h1
    omega
  rcases Nat.lt_trichotomy k k' with g | g | g
  · have := key k k' io h he g; omega
  · exact g
  · have := key k' k io' h' he' g; omega
end Go.Proofs.AM

namespace Go.Proofs.AM
open Go
set_option linter.unusedSimpArgs false
set_option linter.unusedVariables false
set_option linter.unusedSectionVars false

/-- A region whose order may be drawn. -/
structure Rdy (P : Program) (n : Nat) (ops : Array Oper) (ios : List Iop) : Prop where
  len : ios.length = ops.size
  get : ∀ (k : Nat) (o : Oper), ops[k]? = some o → ∃ io, ios[k]? = some io ∧ Prepd P n ops o io
  win : ∀ (k : Nat) (io : Iop), ios[k]? = some io → io.lo = loOf (masks ops.toList) (effsOf 0 ios) k ∧ io.hi = hiOf (masks ops.toList) (effsOf 0 ios) k
  conf : ∀ (k k' : Nat) (o o' : Oper) (io io' : Iop), k < k' → ops[k]? = some o → ios[k]? = some io → ops[k']? = some o' → ios[k']? = some io' →
    ((∃ t, io.dst = some t ∧ t ∈ looksOf o' io'.g) ∨ (∃ t, io'.dst = some t ∧ t ∈ looksOf o io.g) ∨ (∃ t, io.dst = some t ∧ io'.dst = some t) ∨ (io.op.eff = true ∧ io'.op.eff = true)) → Bef ops.toList k k'
  back : ∀ (k : Nat) (o : Oper) (e : Edge), ops[k]? = some o → e ∈ o.after.toList → Region.binds .any e = true → e.on < k

theorem prepRegion_rdy {P : Program} {n : Nat} {ops : Array Oper} {ios : List Iop} (h : prepRegion P n ops true = some (.drawn ios)) : Rdy P n ops ios := by
  unfold prepRegion at h
  split at h
  · cases h
  · rename_i is his
    rw [cond_true] at h
    obtain ⟨hd, h⟩ := cond_inv h
    simp only [Option.some.injEq, IC.drawn.injEq] at h
    subst h
    have h2 := prepOps_spec his
    have hlen := h2.length
    obtain ⟨hml, hms⟩ := masks_spec ops.toList
    unfold drawnOk at hd
    obtain ⟨hb, hp⟩ := cond_true_inv hd
    have hp2 := (pairsOk_spec _ _ _ hp).2
    have hget : ∀ (k : Nat) (io : Iop), (windows (masks ops.toList) (effsOf 0 is) 0 is)[k]? = some io → ∃ i, is[k]? = some i ∧ io = { i with lo := loOf (masks ops.toList) (effsOf 0 is) k, hi := hiOf (masks ops.toList) (effsOf 0 is) k } := by
      intro k io hk
      have hlt : k < is.length := by rw [← windows_length (masks ops.toList) (effsOf 0 is) is 0]; exact (List.getElem?_eq_some_iff.1 hk).1
      refine ⟨is[k], List.getElem?_eq_getElem hlt, ?_⟩
      rw [windows_get _ _ is 0 k is[k] (List.getElem?_eq_getElem hlt), Nat.zero_add] at hk
      exact (Option.some.inj hk).symm
    refine ⟨by rw [windows_length, ← hlen]; simp, fun k o ho => ?_, fun k io hk => ?_, fun k k' o o' io io' hlt ho hio ho' hio' hc => ?_, fun k o e ho he hbnd => ?_⟩
    · have ho' : ops.toList[k]? = some o := by simpa using ho
      have hlt : k < is.length := by rw [← hlen]; exact (List.getElem?_eq_some_iff.1 ho').1
      have hi : is[k]? = some is[k] := List.getElem?_eq_getElem hlt
      have hpd := h2.get ho' hi
      exact ⟨_, windows_get _ _ is 0 k _ hi, ⟨hpd.dst, hpd.op, hpd.g, hpd.ok, hpd.lt, hpd.glt⟩⟩
    · obtain ⟨i, hi, rfl⟩ := hget k io hk
      rw [effsOf_windows]
      exact ⟨rfl, rfl⟩
    · obtain ⟨i, hi, rfl⟩ := hget k io hio
      obtain ⟨i', hi', rfl⟩ := hget k' io' hio'
      have ho1 : ops.toList[k]? = some o := by simpa using ho
      have ho2 : ops.toList[k']? = some o' := by simpa using ho'
      have r1 := risOf_get ops.toList is (masks ops.toList) k o i hlen hml.symm ho1 hi
      have r2 := risOf_get ops.toList is (masks ops.toList) k' o' i' hlen hml.symm ho2 hi'
      have hd1 := (h2.get ho1 hi).dst
      have hd2 := (h2.get ho2 hi').dst
      have := hp2 k k' _ _ hlt r1 r2 (by
        unfold RI.conf
        simp only
        rcases hc with ⟨t, g1, g2⟩ | ⟨t, g1, g2⟩ | ⟨t, g1, g2⟩ | ⟨g1, g2⟩
        · simp only at g1 g2
          rw [hd1] at g1
          have : hitN o.dst (looksOf o' i'.g) = true := by rw [g1]; exact memN_mem g2
          rw [this, cond_true]
        · simp only at g1 g2
          rw [hd2] at g1
          have : hitN o'.dst (looksOf o i.g) = true := by rw [g1]; exact memN_mem g2
          rw [this, cond_true]; cases hitN o.dst (looksOf o' i'.g) <;> rfl
        · simp only at g1 g2
          rw [hd1] at g1
          rw [hd2] at g2
          have : sameD o.dst o'.dst = true := by rw [g1, g2]; exact Nat.beq_refl t
          rw [this, cond_true]; cases hitN o.dst (looksOf o' i'.g) <;> cases hitN o'.dst (looksOf o i.g) <;> rfl
        · simp only at g1 g2
          rw [g1, g2]; cases hitN o.dst (looksOf o' i'.g) <;> cases hitN o'.dst (looksOf o i.g) <;> cases sameD o.dst o'.dst <;> rfl)
      rw [Nat.zero_add] at this
      exact hms k' k this
    · have := backOk_spec ops.toList 0 hb k o e (by simpa using ho) he hbnd
      omega

theorem wants_ev {g : Option (Nat × Bool)} {G G' : Fr} (h : ∀ t b, g = some (t, b) → G.ev (.tmp t) = G'.ev (.tmp t)) : wants g G = wants g G' := by
  cases g with
  | none => rfl
  | some tb =>
    obtain ⟨t, b⟩ := tb
    have e := h t b rfl
    have key : ∀ (G : Fr), isB b (G.get t) = isB b (some (G.ev (.tmp t))) := by
      intro G
      simp only [Fr.ev]
      cases G.get t <;> rfl
    simp only [wants]
    rw [key G, key G', e]

section
variable {P : Program} {M : Old} {base n : Nat} {cf : CallF} {ops : Array Oper} {ios : List Iop} {F : Nat → Fr} {B : Nat → AH} {V : Nat → Value} {Hs : Nat → AH} {μ0 : Pl} {w0 : World}

/-- The state of a walk through a region: L tells which operations are done, j counts the effects among them. -/
structure DI (P : Program) (M : Old) (base n : Nat) (ios : List Iop) (F : Nat → Fr) (B : Nat → AH) (V : Nat → Value) (Hs : Nat → AH) (μ0 : Pl) (w0 : World) (L : Nat → Prop) (j : Nat) (μ : Pl) (Fa : Fr) (a : Act) (w : World) : Prop where
  fr : FrR μ n Fa a
  val : ValOf ios V (F 0) L Fa
  hj : j ≤ ecnt ios ios.length
  eff : ∀ (k : Nat) (io : Iop), ios[k]? = some io → io.op.eff = true → (L k ↔ ecnt ios k < j)
  sx : StepX P M base μ0 (B 0).blk w0 μ (gam ios F B Hs j) w
  dom : ∀ i p, μ i = some p → μ0 i = some p ∨ ∃ k, L k ∧ k < ios.length ∧ (B k).next ≤ i ∧ i < (B (k + 1)).next
  nb : ∀ k b, NB ios F k b → ¬ L k → gam ios F B Hs j (B k).next = b
  abs : ∀ i, i < (B 0).next → μ0 i = none → gam ios F B Hs j i = (B 0).blk i

variable (hm : CallMono cf) (hcf : CallS P M base cf) (rd : Rdy P n ops ios) (tr : Trace M cf ios 0 F B V Hs) (h0 : Hs 0 = B 0) (wf0 : (B 0).WF) (hfresh : ∀ i, (B 0).next ≤ i → i < (B ios.length).next → μ0 i = none)
include hm tr hfresh

/-- The places of what an operation makes are free ahead of it. -/
theorem DI.free {L : Nat → Prop} {j : Nat} {μ : Pl} {Fa : Fr} {a : Act} {w : World} (D : DI P M base n ios F B V Hs μ0 w0 L j μ Fa a w) {k : Nat} (hk : k < ios.length) (hL : ¬ L k) {i : Nat} (h1 : (B k).next ≤ i) (h2 : i < (B (k + 1)).next) : μ i = none := by
  cases hi : μ i with
  | none => rfl
  | some p =>
    exfalso
    rcases D.dom i p hi with g | ⟨k1, g1, g2, g3, g4⟩
    · have a1 := (tr_grows hm tr (Nat.zero_le k) (Nat.le_of_lt hk)).1
      have a2 := (tr_grows hm tr (show k + 1 ≤ ios.length by omega) (Nat.le_refl _)).1
      rw [hfresh i (by omega) (by omega)] at g; cases g
    · rcases Nat.lt_trichotomy k k1 with c | c | c
      · have := (tr_grows hm tr (show k + 1 ≤ k1 by omega) (Nat.le_of_lt g2)).1; omega
      · subst c; exact hL g1
      · have := (tr_grows hm tr (show k1 + 1 ≤ k by omega) (Nat.le_of_lt hk)).1; omega

theorem DI.low {L : Nat → Prop} {j : Nat} {μ : Pl} {Fa : Fr} {a : Act} {w : World} (D : DI P M base n ios F B V Hs μ0 w0 L j μ Fa a w) {i : Nat} (h1 : i < (B 0).next) (h2 : μ0 i = none) : μ i = none := by
  cases hi : μ i with
  | none => rfl
  | some p =>
    exfalso
    rcases D.dom i p hi with g | ⟨k1, g1, g2, g3, g4⟩
    · rw [h2] at g; cases g
    · have := (tr_grows hm tr (Nat.zero_le k1) (Nat.le_of_lt g2)).1; omega
end
end Go.Proofs.AM

namespace Go.Proofs.AM
open Go
set_option linter.unusedSimpArgs false
set_option linter.unusedVariables false
set_option linter.unusedSectionVars false

section
variable {P : Program} {M : Old} {base n : Nat} {cf : CallF} {ops : Array Oper} {ios : List Iop} {F : Nat → Fr} {B : Nat → AH} {V : Nat → Value} {Hs : Nat → AH} {μ0 : Pl} {w0 : World}
variable {L : Nat → Prop} {j : Nat} {μ : Pl} {Fa : Fr} {a : Act} {w : World}

/-- An operation done, the state behind it. -/
theorem DI.done (rd : Rdy P n ops ios) (tr : Trace M cf ios 0 F B V Hs) (D : DI P M base n ios F B V Hs μ0 w0 L j μ Fa a w) (hcl : Closed ops.toList L) {k : Nat} {o : Oper} {io : Iop} (ho : ops[k]? = some o) (hio : ios[k]? = some io) (hp : Prepd P n ops o io) (hr : ReadyP ops.toList L k)
    {j' : Nat} {μ' : Pl} {c : Value} {w' : World} (hv : VR μ' (V k) c) (hle : μ.le μ') (hj : j' ≤ ecnt ios ios.length) (heff : ∀ (k1 : Nat) (io1 : Iop), ios[k1]? = some io1 → io1.op.eff = true → (L k1 ∨ k1 = k ↔ ecnt ios k1 < j'))
    (hsx : StepX P M base μ (gam ios F B Hs j) w μ' (gam ios F B Hs j') w') (hdom : ∀ i p, μ' i = some p → μ i = some p ∨ ((B k).next ≤ i ∧ i < (B (k + 1)).next))
    (hnb : ∀ k' b, NB ios F k' b → ¬ L k' → k' ≠ k → gam ios F B Hs j' (B k').next = b) (habs : ∀ i, i < (B 0).next → μ0 i = none → gam ios F B Hs j' i = (B 0).blk i) :
    DI P M base n ios F B V Hs μ0 w0 (fun m => L m ∨ m = k) j' μ' (putD io.dst (V k) Fa) (a.put o.dst c) w' where
  fr := by
    have h1 : FrR μ' n Fa a := D.fr.mono hle
    rw [hp.dst]
    exact h1.put hp.lt hv
  val := D.val.put hio fun t k' hd hL hw => by
    rcases Nat.lt_or_ge k k' with g | g
    · exfalso
      obtain ⟨io', g1, g2⟩ := hw
      have hlt : k' < ops.size := by rw [← rd.len]; exact (List.getElem?_eq_some_iff.1 g1).1
      have ho' : ops[k']? = some ops[k'] := by simp [hlt]
      exact hr.1 ((rd.conf k k' o _ io io' g ho hio ho' g1 (.inr (.inr (.inl ⟨t, hd, g2⟩)))).closed hcl hL)
    · exact g
  hj := hj
  eff := heff
  sx := D.sx.trans hsx
  dom := fun i p hi => by
    rcases hdom i p hi with g | g
    · rcases D.dom i p g with g | ⟨k1, g1, g2⟩
      · exact .inl g
      · exact .inr ⟨k1, .inl g1, g2⟩
    · exact .inr ⟨k, .inr rfl, (List.getElem?_eq_some_iff.1 hio).1, g⟩
  nb := fun k' b hb hn => hnb k' b hb (fun h => hn (.inl h)) (fun h => hn (.inr h))
  abs := habs

/-- The temporaries that an operation looks at hold what they hold in the trace. -/
theorem DI.look (rd : Rdy P n ops ios) (tr : Trace M cf ios 0 F B V Hs) (D : DI P M base n ios F B V Hs μ0 w0 L j μ Fa a w) (hcl : Closed ops.toList L) {k : Nat} {o : Oper} {io : Iop} (ho : ops[k]? = some o) (hio : ios[k]? = some io) (hr : ReadyP ops.toList L k) {t : Nat} (ht : t ∈ looksOf o io.g) :
    Fa.ev (.tmp t) = (F k).ev (.tmp t) := by
  have hk : k < ios.length := (List.getElem?_eq_some_iff.1 hio).1
  refine ValOf.eq D.val (canon_val tr k (Nat.le_of_lt hk)) fun k' hw => ?_
  obtain ⟨io', g1, g2⟩ := hw
  have hlt : k' < ops.size := by rw [← rd.len]; exact (List.getElem?_eq_some_iff.1 g1).1
  have ho' : ops[k']? = some ops[k'] := by simp [hlt]
  rcases Nat.lt_trichotomy k' k with c | c | c
  · exact ⟨fun _ => c, fun _ => (rd.conf k' k _ o io' io c ho' g1 ho hio (.inl ⟨t, g2, ht⟩)).ready hcl hr⟩
  · subst c; exact ⟨fun h => absurd h hr.1, fun h => by omega⟩
  · exact ⟨fun h => absurd ((rd.conf k k' o _ io io' c ho hio ho' g1 (.inr (.inl ⟨t, g2, ht⟩))).closed hcl h) hr.1, fun h => by omega⟩

variable (hm : CallMono cf) (hcf : CallS P M base cf) (rd : Rdy P n ops ios) (tr : Trace M cf ios 0 F B V Hs) (h0 : Hs 0 = B 0) (wf0 : (B 0).WF) (hfresh : ∀ i, (B 0).next ≤ i → i < (B ios.length).next → μ0 i = none)
include hm rd tr h0 wf0 hfresh

/-- An effect done. -/
theorem DI.effect (D : DI P M base n ios F B V Hs μ0 w0 L j μ Fa a w) (hcl : Closed ops.toList L) {k : Nat} {o : Oper} {io : Iop} (ho : ops[k]? = some o) (hio : ios[k]? = some io) (hp : Prepd P n ops o io) (hr : ReadyP ops.toList L k) (he : io.op.eff = true) (hj : ecnt ios k = j)
    {μ' : Pl} {c : Value} {w' : World} (hv : VR μ' (V k) c) (hst : Step P M base μ (B k) w μ' (B (k + 1)) w') :
    DI P M base n ios F B V Hs μ0 w0 (fun m => L m ∨ m = k) (j + 1) μ' (putD io.dst (V k) Fa) (a.put o.dst c) w' := by
  have hk : k < ios.length := (List.getElem?_eq_some_iff.1 hio).1
  have hec := ecnt_succ hio
  rw [he] at hec
  simp only [if_true] at hec
  have hx1 : ∀ i, (∃ b k', k < k' ∧ NB ios F k' b ∧ (B k').next = i) → (B (k + 1)).next ≤ i ∧ ¬ ((B k).blk i).live := by
    rintro i ⟨b, k', g1, g2, rfl⟩
    have a1 := (tr_grows hm tr (show k + 1 ≤ k' by omega) (Nat.le_of_lt g2.lt)).1
    have a2 := (tr_grows hm tr (show k ≤ k + 1 by omega) (by omega)).1
    exact ⟨a1, tr_wf hm tr wf0 (Nat.le_of_lt hk) _ (by omega)⟩
  have hblk : ∀ i, (∀ b k', NB ios F k' b → j ≤ ecnt ios k' → (B k').next ≠ i) → (B k).blk i = gam ios F B Hs j i := by
    intro i hn
    rcases tr_blk hm tr h0 k (Nat.le_of_lt hk) i with ⟨b, k1, g1, g2, g3, g4, g5⟩ | ⟨g1, g2⟩
    · exact absurd g4 (hn b k1 g2 (by omega))
    · rw [g2, hj, gam_else]
      rintro ⟨b, k', h1, h2, h3⟩
      exact hn b k' h1 h2 h3
  refine D.done rd tr hcl ho hio hp hr hv hst.ext ?_ (fun k1 io1 g1 g2 => ?_) (hst.more D.sx.sim (fun i hl => by rw [← hj]; exact gam_sub hm tr h0 wf0 (Nat.le_of_lt hk) i hl) hx1 fun i => ?_) hst.dom (fun k' b hb hL hkk => ?_) fun i hi hn => ?_
  · have := ecnt_mono (ios := ios) (show k + 1 ≤ ios.length by omega); omega
  · by_cases e : k1 = k
    · subst e; exact ⟨fun _ => by omega, fun _ => .inr rfl⟩
    · have h1 := D.eff k1 io1 g1 g2
      have h2 : ecnt ios k1 ≠ ecnt ios k := fun h => e (ecnt_inj g1 hio g2 he h)
      constructor
      · rintro (h | h)
        · have := h1.1 h; omega
        · exact absurd h e
      · intro h; exact .inl (h1.2 (by omega))
  · have := gam_succ hm tr h0 wf0 hio he i
    rw [hj] at this
    exact this
  · -- blocks that are yet to be made
    by_cases hlate : j + 1 ≤ ecnt ios k'
    · exact gam_late hm tr hb hlate
    · have hlt : k' < k := by
        rcases Nat.lt_trichotomy k' k with c | c | c
        · exact c
        · exact absurd c hkk
        · have := ecnt_mono (ios := ios) (show k + 1 ≤ k' by omega); omega
      have hpush := hb.push tr
      have n1 := (tr_grows hm tr (show k' + 1 ≤ k by omega) (Nat.le_of_lt hk)).1
      have n2 : (B (k' + 1)).next = (B k').next + 1 := by rw [hpush]; rfl
      have hfree := D.free hm tr hfresh hb.lt hL (Nat.le_refl _) (by omega)
      have habs := hst.abs (B k').next (by omega) hfree
      have hold : (B k).blk (B k').next = b := by
        rcases tr_blk hm tr h0 k (Nat.le_of_lt hk) (B k').next with ⟨b1, k1, g1, g2, g3, g4, g5⟩ | ⟨g1, g2⟩
        · rw [g5]; exact (g2.unique hm tr hb g4).2
        · by_cases hec' : ecnt ios k' = ecnt ios k
          · exact absurd rfl (g1 b k' hlt hb hec')
          · rw [hblk _ fun b2 k2 h1 h2 h3 => ?_]
            · exact D.nb k' b hb hL
            · have := (h1.unique hm tr hb h3).1
              subst this
              have := ecnt_mono (ios := ios) (Nat.le_of_lt hlt)
              omega
      have := gam_succ hm tr h0 wf0 hio he (B k').next
      rw [hj] at this
      rcases this with g | ⟨⟨b2, k2, g1, g2, g3⟩, _⟩
      · rw [g, habs, hold]
      · have := (g2.unique hm tr hb g3).1; omega
  · have lo : ∀ b k', NB ios F k' b → (B k').next ≠ i := fun b k' hb e => by
      have := (tr_grows hm tr (Nat.zero_le k') (Nat.le_of_lt hb.lt)).1; omega
    have n0 := (tr_grows hm tr (Nat.zero_le k) (Nat.le_of_lt hk)).1
    have habs := hst.abs i (by omega) (D.low hm tr hfresh hi hn)
    have := gam_succ hm tr h0 wf0 hio he i
    rw [hj] at this
    rcases this with g | ⟨⟨b2, k2, g1, g2, g3⟩, _⟩
    · rw [g, habs, hblk i fun b k' h1 _ => lo b k' h1]
      exact D.abs i hi hn
    · exact absurd g3 (lo b2 k2 g2)

/-- A reading, or anything that leaves memory as it is. -/
theorem DI.still (D : DI P M base n ios F B V Hs μ0 w0 L j μ Fa a w) (hcl : Closed ops.toList L) {k : Nat} {o : Oper} {io : Iop} (ho : ops[k]? = some o) (hio : ios[k]? = some io) (hp : Prepd P n ops o io) (hr : ReadyP ops.toList L k) (he : io.op.eff = false)
    {μ' : Pl} {c : Value} {w' : World} (hv : VR μ' (V k) c) (hst : Step P M base μ (Hs j) w μ' (Hs j) w') (hnn : ∀ b, ¬ NB ios F k b) :
    DI P M base n ios F B V Hs μ0 w0 (fun m => L m ∨ m = k) j μ' (putD io.dst (V k) Fa) (a.put o.dst c) w' := by
  obtain ⟨m, m1, m2, m3, m4⟩ := tr_at hm tr h0 wf0 D.hj
  refine D.done rd tr hcl ho hio hp hr hv hst.ext D.hj (fun k1 io1 g1 g2 => ?_)
    (hst.more D.sx.sim (fun i hl => gam_hs hm tr h0 wf0 D.hj i hl) (ex := fun i => ∃ b k', NB ios F k' b ∧ j ≤ ecnt ios k' ∧ (B k').next = i) (fun i => ?_) fun i => ?_)
    (fun i p hi => ?_) (fun k' b hb hL hkk => D.nb k' b hb hL) D.abs
  · have h1 := D.eff k1 io1 g1 g2
    constructor
    · rintro (h | h)
      · exact h1.1 h
      · subst h; rw [hio] at g1; cases g1; rw [he] at g2; cases g2
    · exact fun h => .inl (h1.2 h)
  · rintro ⟨b, k', g1, g2, rfl⟩
    have a1 := (tr_grows hm tr (m4 k' g2) (Nat.le_of_lt g1.lt)).1
    rw [m2]
    exact ⟨a1, tr_wf hm tr wf0 m1 _ a1⟩
  · by_cases hex : ∃ b k', NB ios F k' b ∧ j ≤ ecnt ios k' ∧ (B k').next = i
    · exact .inr ⟨hex, rfl⟩
    · exact .inl (gam_else hex)
  · rcases hst.dom i p hi with g | g
    · exact .inl g
    · omega

/-- A block made. -/
theorem DI.made (D : DI P M base n ios F B V Hs μ0 w0 L j μ Fa a w) (hcl : Closed ops.toList L) {k : Nat} {o : Oper} {io : Iop} (ho : ops[k]? = some o) (hio : ios[k]? = some io) (hp : Prepd P n ops o io) (hr : ReadyP ops.toList L k) {b : Blk} (hb : NB ios F k b)
    {c : Value} {obj : Obj} {w' : World} (hv : VR (μ.add (B k).next (w.heap.size, 0)) (V k) c) (hbr : BR P (μ.add (B k).next (w.heap.size, 0)) (w.heap.size, 0) b obj) (hw : w' = { w with heap := w.heap.push obj }) :
    DI P M base n ios F B V Hs μ0 w0 (fun m => L m ∨ m = k) j (μ.add (B k).next (w.heap.size, 0)) (putD io.dst (V k) Fa) (a.put o.dst c) w' := by
  have hk : k < ios.length := (List.getElem?_eq_some_iff.1 hio).1
  have n2 : (B (k + 1)).next = (B k).next + 1 := by rw [hb.push tr]; rfl
  have hfree := D.free hm tr hfresh hk hr.1 (Nat.le_refl _) (by omega)
  have he : io.op.eff = false := by
    obtain ⟨io', q, mk, g1, g2, g3, g4⟩ := hb
    rw [hio] at g1; cases g1
    rw [g3]; rfl
  subst hw
  refine D.done rd tr hcl ho hio hp hr hv (Pl.le_add hfree) D.hj (fun k1 io1 g1 g2 => ?_) (stepX_new D.sx.sim hfree (D.nb k b hb hr.1) rfl rfl rfl rfl rfl hbr) (fun i p hi => ?_) (fun k' b hb hL hkk => D.nb k' b hb hL) D.abs
  · have h1 := D.eff k1 io1 g1 g2
    constructor
    · rintro (h | h)
      · exact h1.1 h
      · subst h; rw [hio] at g1; cases g1; rw [he] at g2; cases g2
    · exact fun h => .inl (h1.2 h)
  · unfold Pl.add at hi
    by_cases e : i = (B k).next
    · exact .inr ⟨by omega, by omega⟩
    · rw [if_neg e] at hi; exact .inl hi

include hcf
/-- One operation of a region whose order is drawn. -/
theorem DI.step (D : DI P M base n ios F B V Hs μ0 w0 L j μ Fa a w) (hcl : Closed ops.toList L) {k : Nat} {o : Oper} (ho : ops[k]? = some o) (hr : ReadyP ops.toList L k) {K : Act → World → Prop} {Q : Exit → Act → World → Prop}
    (hK : ∀ j' μ' Fa' a' w', DI P M base n ios F B V Hs μ0 w0 (fun m => L m ∨ m = k) j' μ' Fa' a' w' → K a' w') : wpOp P ops Q k K a w := by
  obtain ⟨io, hio, hp⟩ := rd.get k o ho
  have hk : k < ios.length := (List.getElem?_eq_some_iff.1 hio).1
  have hlook := fun t ht => D.look rd tr hcl ho hio hr (t := t) ht
  have hg : wants io.g Fa = wants io.g (F k) := wants_ev fun t b hgt => hlook t (by simp [looksOf, hgt])
  have hw := wants_eq D.fr hp.g hp.glt
  rw [hg] at hw
  have hE : ∀ x ∈ o.op.operands.toList, VR μ ((F k).ev x) (a.eval x) := by
    intro x hx
    have := D.fr.ev (hp.ok x hx)
    cases x with
    | tmp t => rw [← hlook t (by
        unfold looksOf
        rw [List.mem_append]
        right
        rw [List.mem_filterMap]
        exact ⟨.tmp t, hx, rfl⟩)]; exact this
    | const v => exact this
    | global g => exact this
    | func f => exact this
  have hej : io.op.eff = true → ecnt ios k = j := fun he => by
    have h1 : ¬ ecnt ios k < j := fun h => hr.1 ((D.eff k io hio he).2 h)
    by_cases h2 : j < ecnt ios k
    · exfalso
      obtain ⟨k', io', g1, g2, g3, g4⟩ := ecnt_place k (Nat.le_of_lt hk) h2
      have hlt : k' < ops.size := by rw [← rd.len]; omega
      have ho' : ops[k']? = some ops[k'] := by simp [hlt]
      have := (D.eff k' io' g2 g3).1 ((rd.conf k' k _ o io' io g1 ho' g2 ho hio (.inr (.inr (.inr ⟨g3, he⟩)))).ready hcl hr)
      omega
    · omega
  have simB : io.op.eff = true → Sim P M base μ (B k) w := fun he => by
    refine SimB.toSim (D.sx.sim.sub fun i p _ hl => ?_) (tr_wf hm tr wf0 (Nat.le_of_lt hk))
    rw [← hej he]
    exact (gam_sub hm tr h0 wf0 (Nat.le_of_lt hk) i hl).symm
  have simH : Sim P M base μ (Hs j) w := SimB.toSim (D.sx.sim.sub fun i p _ hl => (gam_hs hm tr h0 wf0 D.hj i hl).symm) (hs_wf hm tr h0 wf0 D.hj)
  unfold wpOp
  rw [ho]
  simp only
  cases hb : wants io.g (F k) with
  | false =>
    rw [hb] at hw
    rw [← hw]
    simp only [Bool.false_eq_true, if_false]
    obtain ⟨v0, b0⟩ := tr.idle k io hio hb
    have hv : VR μ (V k) undef := by rw [v0]; exact .undef
    have nonb : ∀ b, ¬ NB ios F k b := fun b ⟨io', q, mkk, g1, g2, _⟩ => by rw [hio] at g1; cases g1; rw [hb] at g2; cases g2
    cases he : io.op.eff with
    | true => exact hK _ _ _ _ _ (D.effect hm rd tr h0 wf0 hfresh hcl ho hio hp hr he (hej he) hv (by rw [b0]; exact .refl (simB he)))
    | false => exact hK _ _ _ _ _ (D.still hm rd tr h0 wf0 hfresh hcl ho hio hp hr he hv (.refl simH) nonb)
  | true =>
    rw [hb] at hw
    rw [← hw]
    simp only [if_true]
    left
    have hrun := tr.run k io hio hb
    have nonb : (∀ q, io.op ≠ .n q) → ∀ b, ¬ NB ios F k b := fun hn b ⟨io', q, mkk, g1, g2, g3, _⟩ => by rw [hio] at g1; cases g1; exact hn q g3
    have doEff : io.op.eff = true → o.wp P a w K Q := fun he =>
      (op_wpE hcf (simB he) hp.op hE hrun (fun i h1 h2 => D.free hm tr hfresh hk hr.1 h1 h2) fun μ' c w' hv hst =>
        hK _ _ _ _ _ (D.effect hm rd tr h0 wf0 hfresh hcl ho hio hp hr he (hej he) hv hst)).2
    cases hq : io.op with
    | e q => exact doEff (by rw [hq]; rfl)
    | call f args => exact doEff (by rw [hq]; rfl)
    | p q =>
      have hpure : opR io.op M cf (F k).ev (Hs j) = some (V k, Hs j) := by
        rw [hq] at hrun ⊢
        simp only [opR, opP] at hrun ⊢
        cases h : pureR q (F k).ev with
        | none => rw [h] at hrun; cases hrun
        | some v => rw [h] at hrun; simp only [andP, Option.some.injEq, Prod.mk.injEq] at hrun; rw [hrun.1]; rfl
      exact (op_wpE hcf simH hp.op hE hpure (fun i h1 h2 => by omega) fun μ' c w' hv hst =>
        hK _ _ _ _ _ (D.still hm rd tr h0 wf0 hfresh hcl ho hio hp hr (by rw [hq]; rfl) hv hst (nonb fun q' h => by rw [hq] at h; cases h))).2
    | r q =>
      obtain ⟨wlo, whi⟩ := rd.win k io hio
      obtain ⟨u, r1, r2⟩ := tr.read k io q hio hb hq j (by rw [wlo]; exact lo_le D.hj hcl hr D.eff) (by rw [whi]; exact le_hi D.hj hcl hr D.eff) (by have := D.hj; omega)
      have hread : opR io.op M cf (F k).ev (Hs j) = some (V k, Hs j) := by
        rw [hq]
        simp only [opR, opRd, r1, andP]
        rw [sameV_eq r2]
      exact (op_wpE hcf simH hp.op hE hread (fun i h1 h2 => by omega) fun μ' c w' hv hst =>
        hK _ _ _ _ _ (D.still hm rd tr h0 wf0 hfresh hcl ho hio hp hr (by rw [hq]; rfl) hv hst (nonb fun q' h => by rw [hq] at h; cases h))).2
    | n q =>
      rw [hq] at hrun
      simp only [opR, opN] at hrun
      cases hn : newR q (F k).ev with
      | none => rw [hn] at hrun; cases hrun
      | some bm =>
        obtain ⟨b, mk⟩ := bm
        rw [hn] at hrun
        simp only [andN, Option.some.injEq, Prod.mk.injEq] at hrun
        have hnb : NB ios F k b := ⟨io, q, mk, hio, hb, hq, hn⟩
        obtain ⟨c, obj, h1, h2, h3⟩ := new_sound (P := P) o q (by rw [← hq]; exact hp.op) hE hn w
        have hfree := D.free hm tr hfresh hk hr.1 (Nat.le_refl (B k).next) (by rw [hnb.push tr]; simp [AH.push])
        obtain ⟨h4, h5⟩ := h3 (μ.add (B k).next (w.heap.size, 0)) (B k).next (w.heap.size, 0) (Pl.le_add hfree) (by simp [Pl.add]) rfl
        unfold Oper.wp
        rw [h1]
        exact hK _ _ _ _ _ (D.made hm rd tr h0 wf0 hfresh hcl ho hio hp hr hnb (by rw [← hrun.1]; exact h4) h5 rfl)
end
end Go.Proofs.AM

namespace Go.Proofs.AM
open Go
set_option linter.unusedSimpArgs false
set_option linter.unusedVariables false
set_option linter.unusedSectionVars false

/-- How many of the first n aren't listed. -/
def unl (f : Nat → Bool) : Nat → Nat
  | 0 => 0
  | n + 1 => unl f n + if f n then 0 else 1
theorem unl_zero {f : Nat → Bool} : ∀ {n : Nat}, unl f n = 0 → ∀ k, k < n → f k = true
  | 0, _, k, h => by omega
  | n + 1, h, k, hk => by
    simp only [unl] at h
    cases hf : f n with
    | false => rw [hf] at h; simp at h
    | true =>
      by_cases e : k = n
      · rw [e]; exact hf
      · exact unl_zero (n := n) (by omega) k (by omega)
theorem unl_le {f g : Nat → Bool} (h : ∀ k, f k = true → g k = true) : ∀ n, unl g n ≤ unl f n
  | 0 => Nat.le_refl _
  | n + 1 => by
    have := unl_le h n
    simp only [unl]
    cases hf : f n with
    | true => rw [h n hf]; simpa using this
    | false => cases g n <;> simp <;> omega
theorem unl_lt {f g : Nat → Bool} (h : ∀ k, f k = true → g k = true) {i : Nat} (hf : f i = false) (hg : g i = true) : ∀ n, i < n → unl g n < unl f n
  | 0, hi => by omega
  | n + 1, hi => by
    simp only [unl]
    by_cases e : i = n
    · subst e
      have := unl_le h i
      rw [hf, hg]
      simp
      omega
    · have := unl_lt h hf hg n (by omega)
      cases hfn : f n with
      | true => rw [h n hfn]; simpa using this
      | false => cases g n <;> simp <;> omega

section
variable {P : Program} {M : Old} {base n : Nat} {cf : CallF} {ops : Array Oper} {ios : List Iop} {F : Nat → Fr} {B : Nat → AH} {V : Nat → Value} {Hs : Nat → AH} {μ0 : Pl} {w0 : World}

theorem ready_iff {listed : Array Bool} {k : Nat} (hs : listed.size = ops.size) : k ∈ Region.ready .any ops listed ↔ k < ops.size ∧ ReadyP ops.toList (fun m => listed.getD m false = true) k := by
  unfold Region.ready ReadyP
  rw [List.mem_filter, List.mem_range]
  constructor
  · rintro ⟨h1, h2⟩
    rw [Bool.and_eq_true] at h2
    obtain ⟨h2, h3⟩ := h2
    have hk : k < listed.size := by omega
    refine ⟨h1, ?_, fun o e ho he hb => ?_⟩
    · simp [Array.getD, hk] at h2 ⊢
      exact h2
    · have ho' : ops[k]? = some o := by simpa using ho
      rw [ho', Option.map_some, Option.getD_some, Array.all_eq_true'] at h3
      have := h3 e (by simpa using he)
      rw [hb] at this
      simpa using this
  · rintro ⟨h1, h2, h3⟩
    refine ⟨h1, ?_⟩
    have hk : k < listed.size := by omega
    have ho' : ops[k]? = some ops[k] := by simp [h1]
    rw [Bool.and_eq_true]
    refine ⟨?_, ?_⟩
    · simp [Array.getD, hk] at h2 ⊢
      exact h2
    · rw [ho', Option.map_some, Option.getD_some, Array.all_eq_true']
      intro e he
      cases hb : Region.binds .any e with
      | false => rfl
      | true => simpa using h3 ops[k] e (by simp [h1]) (by simpa using he) hb

variable (hm : CallMono cf) (hcf : CallS P M base cf) (rd : Rdy P n ops ios) (tr : Trace M cf ios 0 F B V Hs) (h0 : Hs 0 = B 0) (wf0 : (B 0).WF) (hfresh : ∀ i, (B 0).next ≤ i → i < (B ios.length).next → μ0 i = none)
include hm hcf rd tr h0 wf0 hfresh

/-- All is done. -/
theorem DI.last {L : Nat → Prop} {j : Nat} {μ : Pl} {Fa : Fr} {a : Act} {w : World} (D : DI P M base n ios F B V Hs μ0 w0 L j μ Fa a w) (hall : ∀ k, k < ios.length → L k) :
    FrR μ n (F ios.length) a ∧ Step P M base μ0 (B 0) w0 μ (B ios.length) w := by
  have hjj : j = ecnt ios ios.length := by
    have := D.hj
    by_cases h : j < ecnt ios ios.length
    · obtain ⟨k, io, g1, g2, g3, g4⟩ := ecnt_place ios.length (Nat.le_refl _) h
      have := (D.eff k io g2 g3).1 (hall k g1)
      omega
    · omega
  have hend := gam_end hm tr h0 wf0
  rw [← hjj] at hend
  refine ⟨⟨fun t => ?_, D.fr.size, D.fr.defers⟩, ⟨D.sx.ext, fun i p hi => ?_, (tr_grows hm tr (Nat.zero_le _) (Nat.le_refl _)).1, ?_, fun i p hp hl => ?_, D.sx.frame, D.sx.size, D.sx.os, D.sx.tape, D.sx.output, fun i hi hn => ?_⟩⟩
  · have : Fa.ev (.tmp t) = (F ios.length).ev (.tmp t) := ValOf.eq D.val (canon_val tr ios.length (Nat.le_refl _)) fun k hw => ⟨fun _ => hw.lt, fun _ => hall k hw.lt⟩
    rw [← this]; exact D.fr.tmp t
  · rcases D.dom i p hi with g | ⟨k, g1, g2, g3, g4⟩
    · exact .inl g
    · have a1 := (tr_grows hm tr (Nat.zero_le k) (Nat.le_of_lt g2)).1
      have a2 := (tr_grows hm tr (show k + 1 ≤ ios.length by omega) (Nat.le_refl _)).1
      exact .inr ⟨by omega, by omega⟩
  · exact SimB.toSim (D.sx.sim.sub fun i p _ _ => (hend i).2.symm) (tr_wf hm tr wf0 (Nat.le_refl _))
  · exact D.sx.img i p hp (by rw [(hend i).2]; exact hl)
  · rw [← (hend i).2]; exact D.abs i hi hn

theorem DI.any {Q : Exit → Act → World → Prop} (hQ : ∀ a w μ, FrR μ n (F ios.length) a → Step P M base μ0 (B 0) w0 μ (B ios.length) w → Q .normal a w) :
    ∀ (fuel : Nat) (listed : Array Bool) (j : Nat) (μ : Pl) (Fa : Fr) (a : Act) (w : World), listed.size = ops.size → unl (fun k => listed.getD k false) ops.size ≤ fuel → Closed ops.toList (fun k => listed.getD k false = true) →
      DI P M base n ios F B V Hs μ0 w0 (fun k => listed.getD k false = true) j μ Fa a w → wpAny P .any ops Q fuel listed a w := by
  have hnil : ∀ (listed : Array Bool) (j : Nat) (μ : Pl) (Fa : Fr) (a : Act) (w : World), listed.size = ops.size → (∀ k, k < ops.size → listed.getD k false = true) →
      DI P M base n ios F B V Hs μ0 w0 (fun k => listed.getD k false = true) j μ Fa a w → Q .normal a w := by
    intro listed j μ Fa a w hs hall D
    obtain ⟨h1, h2⟩ := D.last hm hcf rd tr h0 wf0 hfresh (fun k hk => hall k (by rw [← rd.len]; exact hk))
    exact hQ a w μ h1 h2
  intro fuel
  induction fuel with
  | zero =>
    intro listed j μ Fa a w hs hu hc D
    have hall := unl_zero (Nat.le_zero.1 hu)
    refine ⟨?_, hnil listed j μ Fa a w hs hall D⟩
    rw [List.eq_nil_iff_forall_not_mem]
    intro k hk
    obtain ⟨h1, h2, _⟩ := (ready_iff hs).1 hk
    exact h2 (hall k h1)
  | succ fuel ih =>
    intro listed j μ Fa a w hs hu hc D
    refine ⟨fun hr => hnil listed j μ Fa a w hs ?_ D, fun i hi => ?_⟩
    · intro k
      induction k using Nat.strongRecOn with
      | _ k ihk =>
        intro hk
        cases hb : listed.getD k false with
        | true => rfl
        | false =>
          exfalso
          have : k ∈ Region.ready .any ops listed := (ready_iff hs).2 ⟨hk, (by show ¬ (listed.getD k false = true); rw [hb]; simp), fun o e ho he hbd => by
            have := rd.back k o e (by simpa using ho) he hbd
            exact ihk e.on this (by omega)⟩
          rw [hr] at this
          cases this
    · obtain ⟨h1, h2⟩ := (ready_iff hs).1 hi
      have hget : ∀ m, (listed.setIfInBounds i true).getD m false = true ↔ (listed.getD m false = true ∨ m = i) := by
        intro m
        simp only [Array.getD_eq_getD_getElem?, Array.getElem?_setIfInBounds]
        by_cases e : i = m
        · subst e
          rw [if_pos rfl, if_pos (by omega)]
          simp
        · rw [if_neg e]
          exact ⟨.inl, fun h => h.resolve_right (fun h => e h.symm)⟩
      have hL : (fun m => (listed.setIfInBounds i true).getD m false = true) = (fun m => listed.getD m false = true ∨ m = i) := funext fun m => propext (hget m)
      refine D.step hm hcf rd tr h0 wf0 hfresh hc (show ops[i]? = some ops[i] by simp [h1]) h2 fun j' μ' Fa' a' w' D' => ?_
      refine ih _ j' μ' Fa' a' w' (by simpa using hs) ?_ ?_ (by rw [hL]; exact D')
      · have hb : listed.getD i false = false := by
          cases hx : listed.getD i false with
          | false => rfl
          | true => exact absurd hx h2.1
        have := unl_lt (f := fun k => listed.getD k false) (g := fun k => (listed.setIfInBounds i true).getD k false) (fun k hk => (hget k).2 (.inl hk)) hb ((hget i).2 (.inr rfl)) ops.size h1
        omega
      · intro k o e ho hk he hbd
        rcases (hget k).1 hk with g | g
        · exact (hget e.on).2 (.inl (hc k o e ho g he hbd))
        · subst g; exact (hget e.on).2 (.inl (h2.2 o e ho he hbd))
end

/-- Regions whose order is drawn. -/
theorem drawn_sound {P : Program} {M : Old} {base : Nat} (hmix : P.follows .mixedOrders = true) (cf : CallF) (hm : CallMono cf) (hcf : CallS P M base cf) : DrawnS P M base cf := by
  intro n id ops ios fr A fr' A' μ a w Q hp h S hF hfresh hQ
  have rd := prepRegion_rdy hp
  obtain ⟨F, B, V, Hs, f0, b0, fN, bN, hh, tr, _⟩ := runDrawn_trace ios fr A [A] 0 [] fr' A' h rfl
  have h0 : Hs 0 = B 0 := by
    have := hh 0 (Nat.le_refl _)
    simp at this
    rw [b0, ← this]
  have wf0 : (B 0).WF := by rw [b0]; exact S.wf
  have hfresh' : ∀ i, (B 0).next ≤ i → i < (B ios.length).next → μ i = none := by rw [b0, bN]; exact hfresh
  have hgone : ∀ b k, NB ios F k b → (B 0).next ≤ (B k).next ∧ (B k).next < (B ios.length).next := fun b k hb => by
    refine ⟨(tr_grows hm tr (Nat.zero_le k) (Nat.le_of_lt hb.lt)).1, ?_⟩
    have h1 := (tr_grows hm tr (show k + 1 ≤ ios.length from hb.lt) (Nat.le_refl _)).1
    rw [hb.push tr] at h1
    simp only [AH.push] at h1
    omega
  have hgam : ∀ i, (μ i ≠ none ∨ i < (B 0).next) → gam ios F B Hs 0 i = (B 0).blk i := fun i hi => by
    rw [gam_else, h0]
    rintro ⟨b, k, h1, _, h3⟩
    obtain ⟨g1, g2⟩ := hgone b k h1
    rcases hi with hi | hi
    · exact hi (hfresh' i (by omega) (by omega))
    · omega
  have hsimB : SimB P M base μ (gam ios F B Hs 0) { w with drawn := w.drawn + 1 } := by
    refine SimB.world (w := w) (SimB.sub (β := (B 0).blk) (by rw [b0]; exact S.toB) fun i p hp _ => hgam i (.inl (by rw [hp]; simp))) rfl
  refine wp_region_any hmix (DI.any hm hcf rd tr h0 wf0 hfresh' (w0 := w) (μ0 := μ) (fun a' w' μ' g1 g2 => hQ a' w' ⟨μ', by rw [← fN]; exact g1, by rw [← b0, ← bN]; exact g2⟩) ops.size _ 0 μ fr a _ (by simp) ?_ ?_ ?_)
  · have : ∀ (f : Nat → Bool) n, unl f n ≤ n := by
      intro f n
      induction n with
      | zero => exact Nat.le_refl _
      | succ n ih => simp only [unl]; split <;> omega
    exact this _ _
  · intro k o e ho hk
    simp [Array.getD_eq_getD_getElem?, Array.getElem?_replicate] at hk
    split at hk <;> simp at hk
  · have hno : ∀ k, ¬ ((Array.replicate ops.size false).getD k false = true) := fun k hk => by
      simp [Array.getD_eq_getD_getElem?, Array.getElem?_replicate] at hk
      split at hk <;> simp at hk
    refine ⟨hF, fun t => ⟨fun k hk => absurd hk (hno k), fun _ => by rw [f0]⟩, Nat.zero_le _, fun k io _ _ => ⟨fun hk => absurd hk (hno k), fun hk => absurd hk (Nat.not_lt_zero _)⟩, ?_, fun i p hp => .inl hp, fun k b hb _ => ?_, fun i hi _ => hgam i (.inr hi)⟩
    · refine ⟨.refl μ, hsimB, fun i p hp hl => .inl ⟨i, p, hp, by rw [hgam i (.inl (by rw [hp]; simp))] at hl; exact hl, rfl⟩, fun c _ _ => rfl, Nat.le_refl _, rfl, rfl, rfl⟩
    · exact gam_late hm tr hb (Nat.zero_le _)

/-- THE SOUNDNESS OF THE ABSTRACT MACHINE: what it computes, the program computes. -/
theorem am_sound {P : Program} {M : Old} {base : Nat} {T : Tbl} (hmix : P.follows .mixedOrders = true) (hT : TblS P M base T) (N : Nat) : CallS P M base (call M T N) :=
  call_sound hT (fun cf hm hcf => drawn_sound hmix cf hm hcf) N
end Go.Proofs.AM

namespace Go.Proofs.AM
open Go
set_option linter.unusedSimpArgs false
set_option linter.unusedVariables false
noncomputable section

/-! ### The machine once more, for the kernel: each result is handed on, its numbers computed -/
def kN (n : Nat) (k : Nat → Bool) : Bool := Nat.rec (motive := fun _ => Bool) (k 0) (fun m _ => k (Nat.succ m)) n
theorem kN_eq (n : Nat) (k : Nat → Bool) : kN n k = k n := by cases n <;> rfl
def kI (i : Int) (k : Int → Bool) : Bool := Int.rec (motive := fun _ => Bool) (fun n => kN n fun n => k (.ofNat n)) (fun n => kN n fun n => k (.negSucc n)) i
theorem kI_eq (n : Int) (k : Int → Bool) : kI n k = k n := by
  cases n with
  | ofNat n => exact kN_eq n fun n => k (.ofNat n)
  | negSucc n => exact kN_eq n fun n => k (.negSucc n)
def kO {α : Type} (o : Option α) (k : α → Bool) : Bool := Option.rec (motive := fun _ => Bool) false k o
def kB (b : Bool) (k : Bool → Bool) : Bool := Bool.rec (motive := fun _ => Bool) (k false) (k true) b
theorem kB_eq (b : Bool) (k : Bool → Bool) : kB b k = k b := by cases b <;> rfl
def kA (a : Addr) : (Addr → Bool) → Bool := Addr.rec (motive := fun _ => (Addr → Bool) → Bool) (fun b o s k => kN b fun b => kN o fun o => Option.rec (motive := fun _ => Bool) (k ⟨b, o, none⟩) (fun s => k ⟨b, o, some s⟩) s) a
theorem kA_eq (a : Addr) (k : Addr → Bool) : kA a k = k a := by
  obtain ⟨b, o, s⟩ := a
  simp only [kA, kN_eq]
  cases s <;> rfl
def kOA (o : Option Addr) (k : Option Addr → Bool) : Bool := Option.rec (motive := fun _ => Bool) (k none) (fun a => kA a fun a => k (some a)) o
theorem kOA_eq (o : Option Addr) (k : Option Addr → Bool) : kOA o k = k o := by
  cases o with
  | none => rfl
  | some a => exact kA_eq a fun a => k (some a)
def kV (v : Value) : (Value → Bool) → Bool := Value.rec (motive_1 := fun _ => (Value → Bool) → Bool) (motive_2 := fun _ => Unit) (motive_3 := fun _ => Unit) (fun b k => kB b fun b => k (.bool b)) (fun d n k => kI n fun n => k (.int d n)) (fun d n k => k (.float d n)) (fun d n m k => k (.complex d n m)) (fun s k => k (.string s)) (fun o k => kOA o fun o => k (.pointer o)) (fun o n c k => kN n fun n => kN c fun c => kOA o fun o => k (.slice o n c)) (fun r k => k (.map r)) (fun r k => k (.chan r)) (fun f as bs _ _ k => k (.func f as bs)) (fun k => k (.nilFunc)) (fun t v _ k => k (.iface t v)) (fun k => k (.nilIface)) (fun cs _ k => k (.agg cs)) (fun cs _ k => k (.tuple cs)) (fun _ _ => ()) () (fun _ _ _ _ => ()) v
theorem kV_eq (v : Value) (k : Value → Bool) : kV v k = k v := by
  cases v with
  | int d n => exact kI_eq n fun n => k (.int d n)
  | bool b => exact kB_eq b fun b => k (.bool b)
  | pointer o => exact kOA_eq o fun o => k (.pointer o)
  | slice o n c =>
    show (kN n fun n => kN c fun c => kOA o fun o => k (.slice o n c)) = _
    rw [kN_eq, kN_eq, kOA_eq]
  | _ => rfl

/-! Values taken apart -/
def dInt (v : Value) : (IntKind → Int → Bool) → Bool := Value.rec (motive_1 := fun _ => (IntKind → Int → Bool) → Bool) (motive_2 := fun _ => Unit) (motive_3 := fun _ => Unit) (fun _ _k => false) (fun d n k => k d n) (fun _ _ _k => false) (fun _ _ _ _k => false) (fun _ _k => false) (fun _ _k => false) (fun _ _ _ _k => false) (fun _ _k => false) (fun _ _k => false) (fun _ _ _ _ _ _k => false) (fun _k => false) (fun _ _ _ _k => false) (fun _k => false) (fun _ _ _k => false) (fun _ _ _k => false) (fun _ _ => ()) () (fun _ _ _ _ => ()) v
def dBool (v : Value) : (Bool → Bool) → Bool := Value.rec (motive_1 := fun _ => (Bool → Bool) → Bool) (motive_2 := fun _ => Unit) (motive_3 := fun _ => Unit) (fun b k => k b) (fun _ _ _k => false) (fun _ _ _k => false) (fun _ _ _ _k => false) (fun _ _k => false) (fun _ _k => false) (fun _ _ _ _k => false) (fun _ _k => false) (fun _ _k => false) (fun _ _ _ _ _ _k => false) (fun _k => false) (fun _ _ _ _k => false) (fun _k => false) (fun _ _ _k => false) (fun _ _ _k => false) (fun _ _ => ()) () (fun _ _ _ _ => ()) v
def dPtr (v : Value) : (Option Addr → Bool) → Bool := Value.rec (motive_1 := fun _ => (Option Addr → Bool) → Bool) (motive_2 := fun _ => Unit) (motive_3 := fun _ => Unit) (fun _ _k => false) (fun _ _ _k => false) (fun _ _ _k => false) (fun _ _ _ _k => false) (fun _ _k => false) (fun o k => k o) (fun _ _ _ _k => false) (fun _ _k => false) (fun _ _k => false) (fun _ _ _ _ _ _k => false) (fun _k => false) (fun _ _ _ _k => false) (fun _k => false) (fun _ _ _k => false) (fun _ _ _k => false) (fun _ _ => ()) () (fun _ _ _ _ => ()) v
def dSl (v : Value) : (Option Addr → Nat → Nat → Bool) → Bool := Value.rec (motive_1 := fun _ => (Option Addr → Nat → Nat → Bool) → Bool) (motive_2 := fun _ => Unit) (motive_3 := fun _ => Unit) (fun _ _k => false) (fun _ _ _k => false) (fun _ _ _k => false) (fun _ _ _ _k => false) (fun _ _k => false) (fun _ _k => false) (fun o n c k => k o n c) (fun _ _k => false) (fun _ _k => false) (fun _ _ _ _ _ _k => false) (fun _k => false) (fun _ _ _ _k => false) (fun _k => false) (fun _ _ _k => false) (fun _ _ _k => false) (fun _ _ => ()) () (fun _ _ _ _ => ()) v
def dTup (v : Value) : (Array Value → Bool) → Bool := Value.rec (motive_1 := fun _ => (Array Value → Bool) → Bool) (motive_2 := fun _ => Unit) (motive_3 := fun _ => Unit) (fun _ _k => false) (fun _ _ _k => false) (fun _ _ _k => false) (fun _ _ _ _k => false) (fun _ _k => false) (fun _ _k => false) (fun _ _ _ _k => false) (fun _ _k => false) (fun _ _k => false) (fun _ _ _ _ _ _k => false) (fun _k => false) (fun _ _ _ _k => false) (fun _k => false) (fun _ _ _k => false) (fun cs _ k => k cs) (fun _ _ => ()) () (fun _ _ _ _ => ()) v
def isBR (v : Value) : Bool → Bool := Value.rec (motive_1 := fun _ => Bool → Bool) (motive_2 := fun _ => Unit) (motive_3 := fun _ => Unit) (fun b c => Bool.rec (motive := fun _ => Bool) (Bool.rec (motive := fun _ => Bool) true false c) c b) (fun _ _ _c => false) (fun _ _ _c => false) (fun _ _ _ _c => false) (fun _ _c => false) (fun _ _c => false) (fun _ _ _ _c => false) (fun _ _c => false) (fun _ _c => false) (fun _ _ _ _ _ _c => false) (fun _c => false) (fun _ _ _ _c => false) (fun _c => false) (fun _ _ _c => false) (fun _ _ _c => false) (fun _ _ => ()) () (fun _ _ _ _ => ()) v
theorem isBR_eq (v : Value) (b : Bool) : isBR v b = isB b (some v) := by
  cases v with
  | bool c => cases b <;> cases c <;> rfl
  | _ => rfl

/-! Operands -/
def evO (o : Option Value) : Value := Option.rec (motive := fun _ => Value) undef (fun v => v) o
def evR (fr : Fr) (x : Operand) : Value := Operand.rec (motive := fun _ => Fr → Value) (fun t fr => evO (fr.get t)) (fun v _ => v) (fun g _ => .pointer (some ⟨2 * g + 1, 0, none⟩)) (fun f _ => .func (.func f) #[] #[]) x fr
theorem evR_eq (fr : Fr) : evR fr = fr.ev := by
  funext x
  cases x with
  | tmp t =>
    show evO (fr.get t) = evTmp (fr.get t)
    cases fr.get t <;> rfl
  | _ => rfl
def wantsR (g : Option (Nat × Bool)) : Fr → Bool := Option.rec (motive := fun _ => Fr → Bool) (fun _ => true) (fun p fr => Option.rec (motive := fun _ => Bool → Bool) (fun _ => false) isBR (fr.get p.1) p.2) g
theorem wantsR_eq (g : Option (Nat × Bool)) (fr : Fr) : wantsR g fr = wants g fr := by
  cases g with
  | none => rfl
  | some p =>
    show (Option.rec (motive := fun _ => Bool → Bool) (fun _ => false) isBR (fr.get p.1) p.2 : Bool) = isB p.2 (fr.get p.1)
    cases fr.get p.1 with
    | none => rfl
    | some v => exact isBR_eq v p.2

/-! Whole numbers -/
def ixK (k : IntKind) : Nat := IntKind.rec (motive := fun _ => Nat) (nat_lit 0) (nat_lit 1) (nat_lit 2) (nat_lit 3) (nat_lit 4) (nat_lit 5) (nat_lit 6) (nat_lit 7) k
theorem ixK_eq (k k' : IntKind) : Nat.beq (ixK k) (ixK k') = decide (k = k') := by cases k <;> cases k' <;> rfl
def hiR (k : IntKind) : Nat := IntKind.rec (motive := fun _ => Nat) (nat_lit 127) (nat_lit 32767) (nat_lit 2147483647) (nat_lit 9223372036854775807) (nat_lit 255) (nat_lit 65535) (nat_lit 4294967295) (nat_lit 18446744073709551615) k
theorem hiR_eq (k : IntKind) : hiR k = hiK k := by cases k <;> rfl
/-- A sum: the usual case first. -/
def addK (d : IntKind) (a b : Int) (k : Value → Bool) : Bool :=
  Int.rec (motive := fun _ => Int → Bool)
    (fun m b => Int.rec (motive := fun _ => Bool)
      (fun n => Bool.rec (motive := fun _ => Bool) (kI (wr d (.ofNat m + .ofNat n)) fun r => k (.int d r)) (kN (Nat.add m n) fun r => k (.int d (.ofNat r))) (Nat.ble (Nat.add m n) (hiR d)))
      (fun n => kI (wr d (.ofNat m + .negSucc n)) fun r => k (.int d r)) b)
    (fun m b => kI (wr d (.negSucc m + b)) fun r => k (.int d r)) a b
theorem addK_eq (d : IntKind) (a b : Int) (k : Value → Bool) : addK d a b k = k (.int d (wr d (a + b))) := by
  cases a with
  | ofNat m => cases b with
    | ofNat n =>
      show Bool.rec (motive := fun _ => Bool) (kI (wr d (.ofNat m + .ofNat n)) fun r => k (.int d r)) (kN (Nat.add m n) fun r => k (.int d (.ofNat r))) (Nat.ble (Nat.add m n) (hiR d)) = _
      cases hb : Nat.ble (Nat.add m n) (hiR d) with
      | false => exact kI_eq _ fun r => k (.int d r)
      | true =>
        rw [hiR_eq] at hb
        show (kN (Nat.add m n) fun r => k (.int d (.ofNat r))) = _
        rw [kN_eq]
        have : wr d (Int.ofNat m + Int.ofNat n) = .ofNat (Nat.add m n) := by
          show wr d (.ofNat (m + n)) = _
          simp only [wr]
          have hb' : Nat.ble (m + n) (hiK d) = true := hb
          rw [hb', cond_true]; rfl
        rw [this]
    | negSucc n => exact kI_eq _ fun r => k (.int d r)
  | negSucc m => exact kI_eq _ fun r => k (.int d r)
def ltR (a b : Int) : Bool :=
  Int.rec (motive := fun _ => Int → Bool)
    (fun m b => Int.rec (motive := fun _ => Bool) (fun n => Nat.ble (Nat.succ m) n) (fun _ => false) b)
    (fun m b => Int.rec (motive := fun _ => Bool) (fun _ => true) (fun n => Nat.ble (Nat.succ n) m) b) a b
theorem ltR_eq (a b : Int) : ltR a b = ltI a b := by cases a <;> cases b <;> rfl
def eqR (a b : Int) : Bool :=
  Int.rec (motive := fun _ => Int → Bool)
    (fun m b => Int.rec (motive := fun _ => Bool) (fun n => Nat.beq m n) (fun _ => false) b)
    (fun m b => Int.rec (motive := fun _ => Bool) (fun _ => false) (fun n => Nat.beq m n) b) a b
theorem eqR_eq (a b : Int) : eqR a b = eqI a b := by cases a <;> cases b <;> rfl
def kNB (b : Bool) (k : Value → Bool) : Bool := Bool.rec (motive := fun _ => Bool) (k (.bool true)) (k (.bool false)) b
theorem kNB_eq (b : Bool) (k : Value → Bool) : kNB b k = k (.bool (!b)) := by cases b <;> rfl
def kYB (b : Bool) (k : Value → Bool) : Bool := Bool.rec (motive := fun _ => Bool) (k (.bool false)) (k (.bool true)) b
theorem kYB_eq (b : Bool) (k : Value → Bool) : kYB b k = k (.bool b) := by cases b <;> rfl
abbrev BinK := IntKind → Int → Int → (Value → Bool) → Bool
def binG (op : BinOp) : BinK := fun d a b k => kO (binI op d a b) fun v => kV v k
def binK (op : BinOp) : BinK := BinOp.rec (motive := fun _ => BinK) addK (binG .sub) (binG .mul) (binG .quo) (binG .rem) (binG .and) (binG .or) (binG .xor) (binG .shl) (binG .shr) (binG .andNot)
  (fun _ a b k => kYB (eqR a b) k) (fun _ a b k => kNB (eqR a b) k) (fun _ a b k => kYB (ltR a b) k) (fun _ a b k => kNB (ltR b a) k) (fun _ a b k => kYB (ltR b a) k) (fun _ a b k => kNB (ltR a b) k) op
theorem binK_eq (op : BinOp) (d : IntKind) (a b : Int) (k : Value → Bool) : binK op d a b k = kO (binI op d a b) k := by
  have hG : ∀ op, binG op d a b k = kO (binI op d a b) k := fun op => by
    unfold binG
    simp only [kV_eq]
  cases op with
  | add => exact addK_eq d a b k
  | eql => show kYB (eqR a b) k = _; rw [kYB_eq, eqR_eq]; rfl
  | neq => show kNB (eqR a b) k = _; rw [kNB_eq, eqR_eq]; rfl
  | lss => show kYB (ltR a b) k = _; rw [kYB_eq, ltR_eq]; rfl
  | leq => show kNB (ltR b a) k = _; rw [kNB_eq, ltR_eq]; rfl
  | gtr => show kYB (ltR b a) k = _; rw [kYB_eq, ltR_eq]; rfl
  | geq => show kNB (ltR a b) k = _; rw [kNB_eq, ltR_eq]; rfl
  | _ => exact hG _

def setK {α : Type} (t : T α) : Nat → α → (T α → Bool) → Bool :=
  T.rec (motive := fun _ => Nat → α → (T α → Bool) → Bool) (fun n a k => k (T.single (n + 1) n a))
    (fun l v r ihl ihr n a k => Nat.rec (motive := fun _ => Bool) (k (.node l (some a) r)) (fun m _ => Bool.rec (motive := fun _ => Bool) (ihr (Nat.div m (nat_lit 2)) a fun r => k (.node l v r)) (ihl (Nat.div m (nat_lit 2)) a fun l => k (.node l v r)) (Nat.beq (Nat.mod m (nat_lit 2)) (nat_lit 0))) n) t
theorem setK_eq {α : Type} (t : T α) : ∀ (n : Nat) (a : α) (k : T α → Bool), setK t n a k = k (t.set n a) := by
  induction t with
  | nil => intro n a k; rfl
  | node l v r ihl ihr =>
    intro n a k
    cases n with
    | zero => rfl
    | succ m =>
      rw [T.set_succ]
      show Bool.rec (motive := fun _ => Bool) (setK r (m / 2) a fun r => k (.node l v r)) (setK l (m / 2) a fun l => k (.node l v r)) (Nat.beq (m % 2) 0) = _
      cases Nat.beq (m % 2) 0 with
      | true => exact ihl _ _ _
      | false => exact ihr _ _ _
/-- The way to a place, computed. -/
def touchK {α : Type} (t : T α) : Nat → (T α → Bool) → Bool :=
  T.rec (motive := fun _ => Nat → (T α → Bool) → Bool) (fun n k => k .nil)
    (fun l v r ihl ihr n k => Nat.rec (motive := fun _ => Bool) (k (.node l v r)) (fun m _ => Bool.rec (motive := fun _ => Bool) (ihr (Nat.div m (nat_lit 2)) fun r => k (.node l v r)) (ihl (Nat.div m (nat_lit 2)) fun l => k (.node l v r)) (Nat.beq (Nat.mod m (nat_lit 2)) (nat_lit 0))) n) t
theorem touchK_eq {α : Type} (t : T α) : ∀ (n : Nat) (k : T α → Bool), touchK t n k = k t := by
  induction t with
  | nil => intro n k; rfl
  | node l v r ihl ihr =>
    intro n k
    cases n with
    | zero => rfl
    | succ m =>
      show Bool.rec (motive := fun _ => Bool) (touchK r (m / 2) fun r => k (.node l v r)) (touchK l (m / 2) fun l => k (.node l v r)) (Nat.beq (m % 2) 0) = _
      cases Nat.beq (m % 2) 0 with
      | true => exact ihl _ _
      | false => exact ihr _ _
def setLK {α : Type} (t : T α) (n : Nat) (l : List α) (k : T α → Bool) : Bool :=
  List.rec (motive := fun _ => T α → Nat → Bool) (fun t _ => k t) (fun a _ ih t n => setK t n a fun t => ih t (n + 1)) l t n
theorem setLK_eq {α : Type} (l : List α) (k : T α → Bool) : ∀ (t : T α) (n : Nat), setLK t n l k = k (t.setL n l) := by
  induction l with
  | nil => intro t n; rfl
  | cons a l ih =>
    intro t n
    show setK t n a (fun t => setLK t (n + 1) l k) = _
    rw [setK_eq, ih]
    rfl

abbrev KV := Value → AH → Bool
abbrev KF := Fr → AH → Bool
abbrev KX := Ex → Fr → AH → Bool
abbrev CallK := Nat → List Value → AH → KV → Bool
def bV (o : Option (Value × AH)) (k : KV) : Bool := match o with | some (v, A) => k v A | none => false
def bF (o : Option (Fr × AH)) (k : KF) : Bool := match o with | some (v, A) => k v A | none => false
def bX (o : Option (Ex × Fr × AH)) (k : KX) : Bool := match o with | some (x, v, A) => k x v A | none => false

def kAH (A : AH) (i : Nat) (k : AH → Bool) : Bool := match A with | ⟨nx, bl⟩ => kN nx fun nx => touchK bl i fun bl => k ⟨nx, bl⟩
theorem kAH_eq (A : AH) (i : Nat) (k : AH → Bool) : kAH A i k = k A := by
  obtain ⟨nx, bl⟩ := A
  simp only [kAH, kN_eq, touchK_eq]

def bA (o : Option AH) (k : AH → Bool) : Bool := match o with | some A => k A | none => false
def storeB (b : Blk) : AH → Nat → Nat → List Value → (AH → Bool) → Bool := Blk.rec (motive := fun _ => AH → Nat → Nat → List Value → (AH → Bool) → Bool) (fun _ _ _ _ _ => false)
  (fun n ov zs e g A i off vs k => Bool.rec (motive := fun _ => Bool) false (Bool.rec (motive := fun _ => Bool) false (setLK ov off vs fun ov => setK A.blks i (.cells n ov zs e g) fun bl => k ⟨A.next, bl⟩) (allOne vs)) (Nat.ble (Nat.add off vs.length) n))
  (fun _ _ _ _ _ _ => false) b
def blkR (A : AH) (i : Nat) : Blk := Option.rec (motive := fun _ => Blk) .dead (fun b => b) (A.blks.get i)
theorem blkR_eq (A : AH) (i : Nat) : blkR A i = A.blk i := by
  show (Option.rec (motive := fun _ => Blk) .dead (fun b => b) (A.blks.get i) : Blk) = (match A.blks.get i with | some b => b | none => .dead)
  cases A.blks.get i <;> rfl
def storeK (A : AH) (a : Addr) (vs : List Value) (k : AH → Bool) : Bool :=
  Option.rec (motive := fun _ => Bool) (Bool.rec (motive := fun _ => Bool) false (storeB (blkR A (Nat.div a.block (nat_lit 2))) A (Nat.div a.block (nat_lit 2)) a.off vs k) (Nat.beq (Nat.mod a.block (nat_lit 2)) (nat_lit 0))) (fun _ => false) a.spot
theorem storeK_eq (A : AH) (a : Addr) (vs : List Value) (k : AH → Bool) : storeK A a vs k = bA (A.store a vs) k := by
  unfold storeK AH.store
  cases a.spot with
  | some s => rfl
  | none =>
    show (Bool.rec (motive := fun _ => Bool) false (storeB (blkR A (a.block / 2)) A (a.block / 2) a.off vs k) (Nat.beq (a.block % 2) 0) : Bool) = _
    simp only
    cases Nat.beq (a.block % 2) 0 with
    | false => rfl
    | true =>
      simp only [cond_true]
      rw [blkR_eq]
      cases A.blk (a.block / 2) with
      | cells n ov zs e g =>
        show (Bool.rec (motive := fun _ => Bool) false (Bool.rec (motive := fun _ => Bool) false (setLK ov a.off vs fun ov => setK A.blks (a.block / 2) (.cells n ov zs e g) fun bl => k ⟨A.next, bl⟩) (allOne vs)) (Nat.ble (a.off + vs.length) n) : Bool) = _
        simp only
        cases Nat.ble (a.off + vs.length) n with
        | false => rfl
        | true =>
          simp only [cond_true]
          cases allOne vs with
          | false => rfl
          | true => simp only [cond_true, setLK_eq, setK_eq]; rfl
      | _ => rfl

def effK_store (n : Nat) (x v : Operand) (ρ : Env) (A : AH) (k : KV) : Bool :=
  dPtr (ρ x) fun o => Option.rec (motive := fun _ => Bool) false (fun a => Bool.rec (motive := fun _ => Bool) false (storeK A a (ρ v).cells.toList fun A => k undef A) (Nat.beq (ρ v).cells.size n)) o
theorem effK_store_eq (n : Nat) (x v : Operand) (M : Old) (ρ : Env) (A : AH) (k : KV) : effK_store n x v ρ A k = bV (effR_store n x v M ρ A) k := by
  unfold effK_store effR_store
  cases ρ x with
  | pointer o =>
    cases o with
    | none => rfl
    | some a =>
      show (Bool.rec (motive := fun _ => Bool) false (storeK A a (ρ v).cells.toList fun A => k undef A) (Nat.beq (ρ v).cells.size n) : Bool) = _
      simp only
      cases Nat.beq (ρ v).cells.size n with
      | false => rfl
      | true =>
        simp only [cond_true, storeK_eq]
        cases A.store a (ρ v).cells.toList <;> rfl
  | _ => rfl

/-- What was touched: the block of a slice or a pointer. -/
def blkOf : Value → Nat
  | .slice (some a) _ _ => a.block / 2
  | .pointer (some a) => a.block / 2
  | .map (some r) => r / 2
  | _ => 0
def effK (q : EOp) : Old → Env → AH → KV → Bool := EOp.rec (motive := fun _ => Old → Env → AH → KV → Bool)
  (fun n x v _ ρ A k => effK_store n x v ρ A k)
  (fun kt m x v M ρ A k => bV (effR_mapUpdate kt m x v M ρ A) fun v A' => kAH A' (blkOf (ρ m)) fun A' => k v A')
  (fun s e x y M ρ A k => bV (effR_append s e x y M ρ A) fun v A' => kV v fun v => kAH A' (blkOf (ρ x)) fun A' => kAH A' (blkOf v) fun A' => k v A')
  (fun s x y M ρ A k => bV (effR_copy s x y M ρ A) fun v A' => kV v fun v => kAH A' (blkOf (ρ x)) fun A' => k v A')
  (fun zs x M ρ A k => bV (effR_clearSlice zs x M ρ A) fun v A' => kAH A' (blkOf (ρ x)) fun A' => k v A') q
theorem effK_eq (q : EOp) (M : Old) (ρ : Env) (A : AH) (k : KV) : effK q M ρ A k = bV (effR q M ρ A) k := by
  cases q with
  | store n x v => exact effK_store_eq n x v M ρ A k
  | mapUpdate kt m x v => show (bV (effR_mapUpdate kt m x v M ρ A) fun v A' => kAH A' (blkOf (ρ m)) fun A' => k v A') = _; simp only [kAH_eq]; rfl
  | append s e x y => show (bV (effR_append s e x y M ρ A) fun v A' => kV v fun v => kAH A' (blkOf (ρ x)) fun A' => kAH A' (blkOf v) fun A' => k v A') = _; simp only [kAH_eq, kV_eq]; rfl
  | copy s x y => show (bV (effR_copy s x y M ρ A) fun v A' => kV v fun v => kAH A' (blkOf (ρ x)) fun A' => k v A') = _; simp only [kAH_eq, kV_eq]; rfl
  | clearSlice zs x => show (bV (effR_clearSlice zs x M ρ A) fun v A' => kAH A' (blkOf (ρ x)) fun A' => k v A') = _; simp only [kAH_eq]; rfl

def newK (o : Option (Blk × (Nat → Value))) (A : AH) (k : KV) : Bool := match o with
  | some (b, mk) => setK A.blks A.next b fun bl => kN (A.next + 1) fun nx => kV (mk A.next) fun v => k v ⟨nx, bl⟩
  | none => false
theorem newK_eq (o : Option (Blk × (Nat → Value))) (A : AH) (k : KV) : newK o A k = bV (andN A o) k := by
  cases o with
  | none => rfl
  | some b => obtain ⟨b, mk⟩ := b; simp only [newK, setK_eq, kN_eq, kV_eq]; rfl

def addAK (a : Addr) (n : Nat) (k : Addr → Bool) : Bool := Nat.rec (motive := fun _ => Bool) (k a) (fun n _ => kN (Nat.add a.off (Nat.succ n)) fun o => k ⟨a.block, o, none⟩) n
theorem addAK_eq (a : Addr) (n : Nat) (k : Addr → Bool) : addAK a n k = k (addA a n) := by
  cases n with
  | zero => rfl
  | succ n =>
    show (kN (Nat.add a.off (Nat.succ n)) fun o => k ⟨a.block, o, none⟩) = _
    rw [kN_eq]; rfl
abbrev KP := Fr → (Value → Bool) → Bool
def pureK (q : POp) : KP := POp.rec (motive := fun _ => KP)
  (fun x fr k => k (evR fr x))
  (fun c a b fr k => dBool (evR fr c) fun t => Bool.rec (motive := fun _ => Bool) (k (evR fr b)) (k (evR fr a)) t)
  (fun a b fr k => kO (pureR_build a b (evR fr)) fun v => kV v k)
  (fun x fr k => dPtr (evR fr x) fun o => Option.rec (motive := fun _ => Bool) false (fun a => k (.pointer (some a))) o)
  (fun op x y fr k => dInt (evR fr x) fun d a => dInt (evR fr y) fun d' b => Bool.rec (motive := fun _ => Bool) false (binK op d a b k) (Nat.beq (ixK d) (ixK d')))
  (fun a b c fr k => kO (pureR_shift a b c (evR fr)) fun v => kV v k)
  (fun a b c fr k => kO (pureR_streq a b c (evR fr)) fun v => kV v k)
  (fun a b c d fr k => kO (pureR_eqv a b c d (evR fr)) fun v => kV v k)
  (fun a fr k => kO (pureR_neg a (evR fr)) fun v => kV v k)
  (fun x fr k => dBool (evR fr x) fun b => kNB b k)
  (fun a fr k => kO (pureR_compl a (evR fr)) fun v => kV v k)
  (fun a b fr k => kO (pureR_conv a b (evR fr)) fun v => kV v k)
  (fun a fr k => kO (pureR_sameStr a (evR fr)) fun v => kV v k)
  (fun a b c fr k => kO (pureR_makeFunc a b c (evR fr)) fun v => kV v k)
  (fun a b c fr k => kO (pureR_sliceStr a b c (evR fr)) fun v => kV v k)
  (fun a b c d e fr k => kO (pureR_slice a b c d e (evR fr)) fun v => kV v k)
  (fun a b c d e f fr k => kO (pureR_sliceArr a b c d e f (evR fr)) fun v => kV v k)
  (fun off x fr k => dPtr (evR fr x) fun o => Option.rec (motive := fun _ => Bool) false (fun a => addAK a off fun a => k (.pointer (some a))) o)
  (fun a b c d fr k => kO (pureR_field a b c d (evR fr)) fun v => kV v k)
  (fun sz x i fr k => dSl (evR fr x) fun o n _ => Option.rec (motive := fun _ => Bool) false (fun a => dInt (evR fr i) fun _ j => Int.rec (motive := fun _ => Bool) (fun j => Bool.rec (motive := fun _ => Bool) false (addAK a (Nat.mul j sz) fun a => k (.pointer (some a))) (Nat.ble (Nat.succ j) n)) (fun _ => false) j) o)
  (fun a b c d fr k => kO (pureR_indexArrAddr a b c d (evR fr)) fun v => kV v k)
  (fun a b fr k => kO (pureR_indexStr a b (evR fr)) fun v => kV v k)
  (fun a b c d e fr k => kO (pureR_indexArr a b c d e (evR fr)) fun v => kV v k)
  (fun x i fr k => dTup (evR fr x) fun vs => kO (nthV vs.toList i) fun v => kV v k)
  (fun x fr k => dSl (evR fr x) fun _ n _ => k (.int .i64 (.ofNat n)))
  (fun a fr k => kO (pureR_lenStr a (evR fr)) fun v => kV v k)
  (fun a fr k => kO (pureR_lenArr a (evR fr)) fun v => kV v k)
  (fun a fr k => kO (pureR_capSlice a (evR fr)) fun v => kV v k)
  (fun a fr k => kO (pureR_maxI a (evR fr)) fun v => kV v k)
  (fun a fr k => kO (pureR_minI a (evR fr)) fun v => kV v k)
  (fun fr k => kO (pureR_fail (evR fr)) fun v => kV v k) q
theorem pureK_eq (q : POp) (fr : Fr) (k : Value → Bool) : pureK q fr k = kO (pureR q fr.ev) k := by
  have hG : ∀ o : Option Value, (kO o fun v => kV v k) = kO o k := fun o => by simp only [kV_eq]
  rw [← evR_eq]
  cases q with
  | mov x => rfl
  | pick c a b =>
    show dBool (evR fr c) _ = kO (pureR_pick c a b (evR fr)) k
    unfold pureR_pick
    cases evR fr c with
    | bool t => cases t <;> rfl
    | _ => rfl
  | nilCheck x =>
    show dPtr (evR fr x) _ = kO (pureR_nilCheck x (evR fr)) k
    unfold pureR_nilCheck
    cases evR fr x with
    | pointer o => cases o <;> rfl
    | _ => rfl
  | bin op x y =>
    show (dInt (evR fr x) fun d a => dInt (evR fr y) fun d' b => Bool.rec (motive := fun _ => Bool) false (binK op d a b k) (Nat.beq (ixK d) (ixK d'))) = kO (pureR_bin op x y (evR fr)) k
    unfold pureR_bin
    cases evR fr x with
    | int d a =>
      cases evR fr y with
      | int d' b =>
        show (Bool.rec (motive := fun _ => Bool) false (binK op d a b k) (Nat.beq (ixK d) (ixK d')) : Bool) = _
        rw [ixK_eq]
        simp only
        cases decide (d = d') with
        | false => rfl
        | true => exact binK_eq op d a b k
      | _ => rfl
    | _ => rfl
  | not x =>
    show dBool (evR fr x) _ = kO (pureR_not x (evR fr)) k
    unfold pureR_not
    cases evR fr x with
    | bool b => exact kNB_eq b k
    | _ => rfl
  | fieldAddr off x =>
    show dPtr (evR fr x) _ = kO (pureR_fieldAddr off x (evR fr)) k
    unfold pureR_fieldAddr
    cases evR fr x with
    | pointer o =>
      cases o with
      | none => rfl
      | some a => exact addAK_eq a off fun a => k (.pointer (some a))
    | _ => rfl
  | indexAddr sz x i =>
    show dSl (evR fr x) _ = kO (pureR_indexAddr sz x i (evR fr)) k
    unfold pureR_indexAddr
    cases evR fr x with
    | slice o n c =>
      cases o with
      | none => rfl
      | some a =>
        show dInt (evR fr i) _ = _
        cases evR fr i with
        | int d j =>
          cases j with
          | ofNat j =>
            show (Bool.rec (motive := fun _ => Bool) false (addAK a (j * sz) fun a => k (.pointer (some a))) (Nat.ble (j + 1) n) : Bool) = _
            simp only
            cases Nat.ble (j + 1) n with
            | false => rfl
            | true => exact addAK_eq a (j * sz) fun a => k (.pointer (some a))
          | negSucc j => rfl
        | _ => rfl
    | _ => rfl
  | extract x i =>
    show dTup (evR fr x) _ = kO (pureR_extract x i (evR fr)) k
    unfold pureR_extract
    cases evR fr x with
    | tuple vs => exact hG _
    | _ => rfl
  | lenSlice x =>
    show dSl (evR fr x) _ = kO (pureR_lenSlice x (evR fr)) k
    unfold pureR_lenSlice
    cases evR fr x with
    | slice o n c => rfl
    | _ => rfl
  | makeFunc f a b => exact hG (pureR_makeFunc f a b (evR fr))
  | lenArr n => exact hG (pureR_lenArr n (evR fr))
  | fail => exact hG (pureR_fail (evR fr))
  | _ => exact hG _

def cellR (n : Nat) (ov : T Value) (zs : List Value) (o : Nat) : Option Value :=
  Bool.rec (motive := fun _ => Option Value) none (Option.rec (motive := fun _ => Option Value) (nthV zs (Nat.mod o zs.length)) (fun v => some v) (ov.get o)) (Nat.ble (Nat.succ o) n)
theorem cellR_eq (n : Nat) (ov : T Value) (zs : List Value) (o : Nat) : cellR n ov zs o = cellAt n ov zs o := by
  show (Bool.rec (motive := fun _ => Option Value) none (Option.rec (motive := fun _ => Option Value) (nthV zs (o % zs.length)) (fun v => some v) (ov.get o)) (Nat.ble (o + 1) n) : Option Value) = _
  unfold cellAt
  cases Nat.ble (o + 1) n with
  | false => rfl
  | true => cases ov.get o <;> rfl
def loadB (b : Blk) : Nat → Option Value := Blk.rec (motive := fun _ => Nat → Option Value) (fun _ => none) (fun n ov zs _ _ o => cellR n ov zs o) (fun _ _ => none) b
def loadR (M : Old) (A : AH) (a : Addr) : Option Value :=
  Option.rec (motive := fun _ => Option Value) (Bool.rec (motive := fun _ => Option Value) (M (Nat.div a.block (nat_lit 2)) a.off) (loadB (blkR A (Nat.div a.block (nat_lit 2))) a.off) (Nat.beq (Nat.mod a.block (nat_lit 2)) (nat_lit 0))) (fun _ => none) a.spot
theorem loadR_eq (M : Old) (A : AH) (a : Addr) : loadR M A a = A.load M a := by
  unfold AH.load loadR
  cases a.spot with
  | some s => rfl
  | none =>
    show (Bool.rec (motive := fun _ => Option Value) (M (a.block / 2) a.off) (loadB (blkR A (a.block / 2)) a.off) (Nat.beq (a.block % 2) 0) : Option Value) = _
    simp only
    cases Nat.beq (a.block % 2) 0 with
    | false => rfl
    | true =>
      rw [blkR_eq]
      simp only [cond_true]
      cases A.blk (a.block / 2) with
      | cells n ov zs e g => exact cellR_eq n ov zs a.off
      | _ => rfl
abbrev KR := Old → Fr → AH → (Value → Bool) → Bool
def readK (q : ROp) : KR := ROp.rec (motive := fun _ => KR)
  (fun x M fr A k => dPtr (evR fr x) fun o => Option.rec (motive := fun _ => Bool) false (fun a => kO (loadR M A a) fun v => kV v k) o)
  (fun n x M fr A k => kO (readR_loadA n x M (evR fr) A) k)
  (fun kt z x i ok M fr A k => kO (readR_lookup kt z x i ok M (evR fr) A) fun v => kV v k)
  (fun x M fr A k => kO (readR_lenMap x M (evR fr) A) fun v => kV v k)
  (fun x M fr A k => kO (readR_bytesToStr x M (evR fr) A) k) q
theorem readK_eq (q : ROp) (M : Old) (fr : Fr) (A : AH) (k : Value → Bool) : readK q M fr A k = kO (readR q M fr.ev A) k := by
  have hG : ∀ o : Option Value, (kO o fun v => kV v k) = kO o k := fun o => by simp only [kV_eq]
  rw [← evR_eq]
  cases q with
  | load1 x =>
    show dPtr (evR fr x) _ = kO (readR_load1 x M (evR fr) A) k
    unfold readR_load1
    cases evR fr x with
    | pointer o =>
      cases o with
      | none => rfl
      | some a =>
        show (kO (loadR M A a) fun v => kV v k) = _
        rw [hG, loadR_eq]
    | _ => rfl
  | loadA n x => rfl
  | lookup kt z x i ok => exact hG _
  | lenMap x => exact hG _
  | bytesToStr x => rfl

abbrev KI := Old → CallK → Fr → AH → KV → Bool
def opK (q : IOp) : KI := IOp.rec (motive := fun _ => KI)
  (fun q _ _ fr A k => pureK q fr fun v => k v A)
  (fun q M _ fr A k => readK q M fr A fun v => k v A)
  (fun q _ _ fr A k => newK (newR q (evR fr)) A k)
  (fun q M _ fr A k => effK q M (evR fr) A k)
  (fun f args _ ck fr A k => kO (callR f args (evR fr)) fun ga => ck ga.1 ga.2 A k) q
def IsCall (ck : CallK) (cf : CallF) : Prop := ∀ g args A k, ck g args A k = bV (cf g args A) k
theorem opK_eq {M : Old} {ck : CallK} {cf : CallF} (h : IsCall ck cf) (q : IOp) (fr : Fr) (A : AH) (k : KV) : opK q M ck fr A k = bV (opR q M cf fr.ev A) k := by
  cases q with
  | p q =>
    show pureK q fr _ = bV (andP A (pureR q fr.ev)) k
    rw [pureK_eq]
    cases pureR q fr.ev <;> rfl
  | r q =>
    show readK q M fr A _ = bV (andP A (readR q M fr.ev A)) k
    rw [readK_eq]
    cases readR q M fr.ev A <;> rfl
  | n q =>
    show newK (newR q (evR fr)) A k = _
    rw [newK_eq, evR_eq]; rfl
  | e q =>
    show effK q M (evR fr) A k = _
    rw [effK_eq, evR_eq]; rfl
  | call f args =>
    show (kO (callR f args (evR fr)) fun ga => ck ga.1 ga.2 A k) = bV (andC cf A (callR f args fr.ev)) k
    rw [evR_eq]
    cases callR f args fr.ev with
    | none => rfl
    | some ga => exact h _ _ _ _

def putK (d : Option Nat) (v : Value) (fr : Fr) (k : Fr → Bool) : Bool := Option.rec (motive := fun _ => Bool) (k fr) (fun d => setK fr d v k) d
theorem putK_eq (d : Option Nat) (v : Value) (fr : Fr) (k : Fr → Bool) : putK d v fr k = k (putD d v fr) := by
  cases d with
  | none => rfl
  | some d => exact setK_eq fr d v k

def opsK (M : Old) (ck : CallK) (k : KF) (l : List Iop) : KF :=
  List.rec (motive := fun _ => KF) k (fun o _ ih fr A => Bool.rec (motive := fun _ => Bool) (putK o.dst undef fr fun fr => ih fr A) (opK o.op M ck fr A fun v A => putK o.dst v fr fun fr => ih fr A) (wantsR o.g fr)) l
theorem opsK_eq {M : Old} {ck : CallK} {cf : CallF} (h : IsCall ck cf) (k : KF) : ∀ (l : List Iop) (fr : Fr) (A : AH), opsK M ck k l fr A = bF (runOps M cf l fr A) k := by
  intro l
  induction l with
  | nil => intro fr A; rfl
  | cons o l ih =>
    intro fr A
    show Bool.rec (motive := fun _ => Bool) (putK o.dst undef fr fun fr => opsK M ck k l fr A) (opK o.op M ck fr A fun v A => putK o.dst v fr fun fr => opsK M ck k l fr A) (wantsR o.g fr) = _
    rw [wantsR_eq]
    simp only [runOps, run1]
    cases wants o.g fr with
    | false => simp only [cond_false, putK_eq, ih]
    | true =>
      simp only [cond_true, putK_eq, ih, opK_eq h]
      cases opR o.op M cf fr.ev A <;> rfl

/-- Regions that draw their order. -/
abbrev KD := Fr → AH → List AH → Nat → List Pend → Bool
def dEK (M : Old) (k : KD) (d : Option Nat) (fr : Fr) (hist : List AH) (j : Nat) (pend : List Pend) : KV := fun v A' =>
  Bool.rec (motive := fun _ => Bool) false (putK d v fr fun fr => k fr A' (A' :: hist) (j + 1) pend) (pendOk M (j + 1) A' pend)
abbrev KQ := Old → CallK → Iop → KD → Fr → AH → List AH → Nat → List Pend → Bool
def drawn1K (q : IOp) : KQ := IOp.rec (motive := fun _ => KQ)
  (fun q _ _ o k fr A hist j pend => pureK q fr fun v => putK o.dst v fr fun fr => k fr A hist j pend)
  (fun q M _ o k fr A hist j pend => readK q M fr A fun v => Bool.rec (motive := fun _ => Bool) false (putK o.dst v fr fun fr' => k fr' A hist j (⟨o.hi, q, fr, v⟩ :: pend)) (sameIn M q fr v (j + 1 - o.lo) hist))
  (fun q _ _ o k fr A hist j pend => newK (newR q (evR fr)) A fun v A => putK o.dst v fr fun fr => k fr A hist j pend)
  (fun q M _ o k fr A hist j pend => effK q M (evR fr) A (dEK M k o.dst fr hist j pend))
  (fun f args M ck o k fr A hist j pend => kO (callR f args (evR fr)) fun ga => ck ga.1 ga.2 A (dEK M k o.dst fr hist j pend)) q
def drawnK (M : Old) (ck : CallK) (k : KF) (l : List Iop) : KD :=
  List.rec (motive := fun _ => KD) (fun fr A _ _ _ => k fr A) (fun o _ ih fr A hist j pend => Bool.rec (motive := fun _ => Bool)
    (Bool.rec (motive := fun _ => Bool) (putK o.dst undef fr fun fr => ih fr A hist j pend) (dEK M ih o.dst fr hist j pend undef A) o.op.eff)
    (drawn1K o.op M ck o ih fr A hist j pend) (wantsR o.g fr)) l
theorem drawnK_eq {M : Old} {ck : CallK} {cf : CallF} (h : IsCall ck cf) (k : KF) : ∀ (l : List Iop) (fr : Fr) (A : AH) (hist : List AH) (j : Nat) (pend : List Pend), drawnK M ck k l fr A hist j pend = bF (runDrawn M cf l fr A hist j pend) k := by
  intro l
  induction l with
  | nil => intro fr A hist j pend; rfl
  | cons o l ih =>
    intro fr A hist j pend
    have hE : ∀ (d : Option Nat) (fr : Fr) (hist : List AH) (j : Nat) (pend : List Pend) (o : Option (Value × AH)), bV o (dEK M (drawnK M ck k l) d fr hist j pend) = bF (dE M (runDrawn M cf l) d fr hist j pend o) k := by
      intro d fr hist j pend o
      cases o with
      | none => rfl
      | some v =>
        obtain ⟨v, A'⟩ := v
        simp only [bV, dEK, dE]
        cases pendOk M (j + 1) A' pend with
        | false => rfl
        | true => simp only [cond_true, putK_eq, ih]
    show Bool.rec (motive := fun _ => Bool)
      (Bool.rec (motive := fun _ => Bool) (putK o.dst undef fr fun fr => drawnK M ck k l fr A hist j pend) (dEK M (drawnK M ck k l) o.dst fr hist j pend undef A) o.op.eff)
      (drawn1K o.op M ck o (drawnK M ck k l) fr A hist j pend) (wantsR o.g fr) = _
    rw [wantsR_eq]
    simp only [runDrawn]
    cases wants o.g fr with
    | false =>
      simp only [cond_false]
      cases o.op.eff with
      | false => simp only [cond_false, putK_eq, ih]
      | true => simp only [cond_true]; exact hE o.dst fr hist j pend (some (undef, A))
    | true =>
      simp only [cond_true]
      cases o.op with
      | p q =>
        show (pureK q fr fun v => putK o.dst v fr fun fr => drawnK M ck k l fr A hist j pend) = _
        rw [pureK_eq]
        simp only [drawn1, putK_eq, ih]
        cases pureR q fr.ev <;> rfl
      | r q =>
        show (readK q M fr A fun v => Bool.rec (motive := fun _ => Bool) false (putK o.dst v fr fun fr' => drawnK M ck k l fr' A hist j (⟨o.hi, q, fr, v⟩ :: pend)) (sameIn M q fr v (j + 1 - o.lo) hist)) = _
        rw [readK_eq]
        simp only [drawn1, putK_eq, ih]
        cases readR q M fr.ev A with
        | none => rfl
        | some v =>
          simp only [kO, dR]
          cases sameIn M q fr v (j + 1 - o.lo) hist <;> rfl
      | n q =>
        show (newK (newR q (evR fr)) A fun v A => putK o.dst v fr fun fr => drawnK M ck k l fr A hist j pend) = _
        rw [evR_eq]
        simp only [drawn1, newK_eq, putK_eq, ih]
        cases newR q fr.ev with
        | none => rfl
        | some b => rfl
      | e q =>
        show effK q M (evR fr) A (dEK M (drawnK M ck k l) o.dst fr hist j pend) = _
        rw [evR_eq]
        simp only [drawn1, effK_eq]; exact hE _ _ _ _ _ _
      | call f args =>
        show (kO (callR f args (evR fr)) fun ga => ck ga.1 ga.2 A (dEK M (drawnK M ck k l) o.dst fr hist j pend)) = _
        rw [evR_eq]
        simp only [drawn1]
        rw [← hE]
        cases callR f args fr.ev with
        | none => rfl
        | some ga => exact h _ _ _ _

def leave2K (M : Old) (rs : List Res) (k : KV) (fr : Fr) (A : AH) : Bool := kO (resOf M fr A rs) fun l => k (resV l) A
def leaveK (M : Old) (rs : List Res) (k : KV) : KX := fun x fr A => Ex.rec (motive := fun _ => Bool) (leave2K M rs k fr A) (fun _ => false) (leave2K M rs k fr A) x
def enterK (M : Old) (exk : IC → Fr → AH → KX → Bool) (fn : IFn) (args : List Value) (A : AH) (k : KV) : Bool :=
  Bool.rec (motive := fun _ => Bool) false (setLK .nil 0 args fun fr => exk fn.body fr A (leaveK M fn.results k)) (Nat.ble args.length fn.ntmps)
def callK (M : Old) (F : Tbl) (exk : IC → Fr → AH → KX → Bool) : CallK := fun g args A k => match F g with
  | none => false
  | some (.orc s) => bV (s args A) k
  | some (.code fn) => enterK M exk fn args A k
def IsEx (exk : IC → Fr → AH → KX → Bool) (ex : IC → Code_) : Prop := ∀ c fr A k, exk c fr A k = bX (ex c fr A) k
theorem callK_eq {M : Old} {F : Tbl} {exk : IC → Fr → AH → KX → Bool} {ex : IC → Code_} (h : IsEx exk ex) : IsCall (callK M F exk) (callW M F ex) := by
  intro g args A k
  unfold callK callW
  cases F g with
  | none => rfl
  | some e =>
    cases e with
    | orc s => rfl
    | code fn =>
      simp only [enterE, enterF, enterK]
      cases Nat.ble args.length fn.ntmps with
      | false => rfl
      | true =>
        simp only [cond_true, setLK_eq]
        rw [h fn.body (T.setL .nil 0 args) A (leaveK M fn.results k)]
        cases ex fn.body (T.setL .nil 0 args) A with
        | none => rfl
        | some r =>
          obtain ⟨x, fr, A'⟩ := r
          cases x with
          | exit i => rfl
          | normal =>
            show (kO (resOf M fr A' fn.results) fun l => k (resV l) A') = bV (leaveF2 A' (resOf M fr A' fn.results)) k
            cases resOf M fr A' fn.results <;> rfl
          | ret =>
            show (kO (resOf M fr A' fn.results) fun l => k (resV l) A') = bV (leaveF2 A' (resOf M fr A' fn.results)) k
            cases resOf M fr A' fn.results <;> rfl

def thenK (k : KX) (f : Fr → AH → Bool) : KX := fun x fr A => Ex.rec (motive := fun _ => Bool) (f fr A) (fun i => k (.exit i) fr A) (k .ret fr A) x
def blockK (id : Nat) (k : KX) : KX := fun x fr A => Ex.rec (motive := fun _ => Bool) (k .normal fr A) (fun i => Bool.rec (motive := fun _ => Bool) (k (.exit i) fr A) (k .normal fr A) (Nat.beq i id)) (k .ret fr A) x
abbrev ExK := IC → Fr → AH → KX → Bool
abbrev KS := Old → Tbl → ExK → Fr → AH → KX → Bool
def stepK (c : IC) : KS := IC.rec (motive := fun _ => KS)
  (fun _ _ _ fr A k => k .normal fr A)
  (fun l M F exk fr A k => opsK M (callK M F exk) (fun fr A => k .normal fr A) l fr A)
  (fun l M F exk fr A k => drawnK M (callK M F exk) (fun fr A => k .normal fr A) l fr A [A] 0 [])
  (fun a b _ _ _ _ exk fr A k => exk a fr A (thenK k fun fr A => exk b fr A k))
  (fun c t e _ _ _ _ exk fr A k => dBool (evR fr c) fun z => Bool.rec (motive := fun _ => Bool) (exk e fr A k) (exk t fr A k) z)
  (fun id c _ _ _ exk fr A k => exk c fr A (blockK id k))
  (fun c _ _ _ exk fr A k => exk c fr A (thenK k fun fr A => exk (.loop c) fr A k))
  (fun id _ _ _ fr A k => k (.exit id) fr A)
  (fun _ _ _ fr A k => k .ret fr A) c
def execK (M : Old) (F : Tbl) (n : Nat) : IC → Fr → AH → KX → Bool :=
  Nat.rec (motive := fun _ => IC → Fr → AH → KX → Bool) (fun _ _ _ _ => false) (fun _ ih c => stepK c M F ih) n
theorem bX_then (k : KX) (o : Option (Ex × Fr × AH)) (c : Code_) (f : Fr → AH → Bool) (hf : ∀ fr A, f fr A = bX (c fr A) k) : bX o (thenK k f) = bX (thenX c o) k := by
  cases o with
  | none => rfl
  | some r =>
    obtain ⟨x, fr, A⟩ := r
    cases x with
    | normal => exact hf fr A
    | _ => rfl
theorem bF_normal (k : KX) (o : Option (Fr × AH)) : bF o (fun fr A => k .normal fr A) = bX (fin o) k := by
  cases o <;> rfl
theorem execK_eq (M : Old) (F : Tbl) : ∀ n, IsEx (execK M F n) (exec M F n) := by
  intro n
  induction n with
  | zero => intro c fr A k; rfl
  | succ n ih =>
    intro c fr A k
    show stepK c M F (execK M F n) fr A k = bX (stepI M F (exec M F n) c fr A) k
    cases c with
    | skip => rfl
    | ops l =>
      show opsK M (callK M F (execK M F n)) (fun fr A => k .normal fr A) l fr A = _
      simp only [stepI, opsK_eq (callK_eq ih), bF_normal]
    | drawn l =>
      show drawnK M (callK M F (execK M F n)) (fun fr A => k .normal fr A) l fr A [A] 0 [] = _
      simp only [stepI, drawnK_eq (callK_eq ih), bF_normal]
    | seq a b =>
      show execK M F n a fr A (thenK k fun fr A => execK M F n b fr A k) = _
      simp only [stepI]; rw [ih a fr A]; exact bX_then k _ _ _ fun fr A => ih _ _ _ _
    | cond c t e =>
      show dBool (evR fr c) _ = _
      rw [evR_eq]
      simp only [stepI]
      cases fr.ev c with
      | bool z => cases z <;> exact ih _ _ _ _
      | _ => rfl
    | block id c =>
      show execK M F n c fr A (blockK id k) = _
      simp only [stepI]
      rw [ih c fr A]
      cases exec M F n c fr A with
      | none => rfl
      | some r =>
        obtain ⟨x, fr', A'⟩ := r
        cases x with
        | exit i =>
          show (Bool.rec (motive := fun _ => Bool) (k (.exit i) fr' A') (k .normal fr' A') (Nat.beq i id) : Bool) = _
          simp only [blockX]; cases Nat.beq i id <;> rfl
        | _ => rfl
    | loop c =>
      show execK M F n c fr A (thenK k fun fr A => execK M F n (.loop c) fr A k) = _
      simp only [stepI]; rw [ih c fr A]; exact bX_then k _ _ _ fun fr A => ih _ _ _ _
    | exit id => rfl
    | ret => rfl

/-- A call, for the kernel. -/
def runK (M : Old) (F : Tbl) (n : Nat) : CallK := callK M F (execK M F n)
theorem runK_eq (M : Old) (F : Tbl) (n g : Nat) (args : List Value) (A : AH) (k : KV) : runK M F n g args A k = bV (call M F n g args A) k := callK_eq (execK_eq M F n) g args A k
/-- What the kernel has computed. -/
theorem of_runK {M : Old} {F : Tbl} {n g : Nat} {args : List Value} {A : AH} {k : KV} (h : runK M F n g args A k = true) : ∃ v A', call M F n g args A = some (v, A') ∧ k v A' = true := by
  rw [runK_eq] at h
  cases hc : call M F n g args A with
  | none => rw [hc] at h; cases h
  | some r => rw [hc] at h; exact ⟨r.1, r.2, rfl, h⟩
end
end Go.Proofs.AM

namespace Go.Proofs.AM
open Go
set_option linter.unusedSimpArgs false
set_option linter.unusedVariables false

/-- What holds of all that a trie holds; ι tells the places. -/
def T.All {α : Type} (p : Nat → α → Prop) : T α → (Nat → Nat) → Prop
  | .nil, _ => True
  | .node l v r, ι => (match v with | some a => p (ι 0) a | none => True) ∧ T.All p l (fun q => ι (2 * q + 1)) ∧ T.All p r (fun q => ι (2 * q + 2))
theorem T.All.get {α : Type} {p : Nat → α → Prop} : ∀ {t : T α} {ι : Nat → Nat}, T.All p t ι → ∀ (n : Nat) (a : α), t.get n = some a → p (ι n) a
  | .nil, ι, _, n, a, h => by rw [T.get_nil] at h; cases h
  | .node l v r, ι, ⟨h1, h2, h3⟩, n, a, h => by
    cases n with
    | zero =>
      rw [T.get_zero] at h
      subst h
      exact h1
    | succ m =>
      rw [T.get_succ] at h
      by_cases hm : m % 2 = 0
      · rw [beqEq hm, cond_true] at h
        have := T.All.get h2 (m / 2) a h
        rwa [show 2 * (m / 2) + 1 = m + 1 by omega] at this
      · rw [beqNe hm, cond_false] at h
        have := T.All.get h3 (m / 2) a h
        rwa [show 2 * (m / 2) + 2 = m + 1 by omega] at this

def IsCode (P : Program) (g : Nat) (e : Ent) : Prop := ∃ fn, e = .code fn ∧ prepFn P g = some fn
theorem tblS_of_all {P : Program} {M : Old} {base : Nat} {t : T Ent} (h : T.All (IsCode P) t (fun n => n)) : TblS P M base t.get where
  code := fun g fn hg => by
    obtain ⟨fn', h1, h2⟩ := h.get g _ hg
    cases h1
    exact h2
  mono := fun g s hg => by
    obtain ⟨fn', h1, h2⟩ := h.get g _ hg
    cases h1
  orc := fun g s hg => by
    obtain ⟨fn', h1, h2⟩ := h.get g _ hg
    cases h1

/-- The empty heap, behind any world. -/
theorem sim_empty {P : Program} (w : World) : Sim P (fun _ _ => none) w.heap.size (fun _ => none) ⟨0, .nil⟩ w where
  le := Nat.le_refl _
  old := fun b o v h => by cases h
  blk := fun i p h => by cases h
  inj := fun i j p q h => by cases h
  wf := fun i _ h => by
    have : (⟨0, .nil⟩ : AH).blk i = .dead := rfl
    rw [this] at h
    exact h

/-- A world that has only grown. -/
structure Grown (w w' : World) : Prop where
  frame : ∀ c, c < w.heap.size → w'.heap[c]? = w.heap[c]?
  size : w.heap.size ≤ w'.heap.size
  os : w'.os = w.os
  tape : w'.tape = w.tape
  output : w'.output = w.output

noncomputable def isTrue : Value → AH → Bool := fun v _ => dBool v fun b => b
theorem isTrue_inv {v : Value} {A : AH} (h : isTrue v A = true) : v = .bool true := by
  unfold isTrue at h
  cases v with
  | bool b => exact congrArg _ h
  | _ => cases h

/-- A call without arguments that the kernel has computed. -/
theorem closed_calls {P : Program} {t : T Ent} (hmix : P.follows .mixedOrders = true) (ht : T.All (IsCode P) t (fun n => n)) {N g : Nat} (h : runK (fun _ _ => none) t.get N g [] ⟨0, .nil⟩ isTrue = true) (w : World) :
    Calls P g #[] w fun e w' => e = .returned (.bool true) ∧ Grown w w' := by
  obtain ⟨v, A', h1, h2⟩ := of_runK h
  have hs := am_sound (M := fun _ _ => none) (base := w.heap.size) hmix (tblS_of_all ht) N g [] ⟨0, .nil⟩ v A' (fun _ => none) w #[] h1 (sim_empty w) (fun _ _ _ => rfl) .nil
  refine Calls.mono hs.2.2 fun e w' => ?_
  rintro ⟨μ', c, rfl, hv, hst⟩
  rw [isTrue_inv h2] at hv
  refine ⟨?_, ⟨fun c hc => hst.frame c hc (fun j q hq => by cases hq), hst.size, hst.os, hst.tape, hst.output⟩⟩
  rw [(bool_VR hv true).1 rfl]
end Go.Proofs.AM

namespace Go.Proofs.AM
open Go
set_option linter.unusedSimpArgs false
set_option linter.unusedVariables false

/-! ### What came in: from a typed reading of memory to the abstract machine's old memory -/
/-- A value that lay there, as the abstract machine has it. -/
def liftA : Value → Option Value
  | .bool b => some (.bool b)
  | .int k n => some (.int k n)
  | .string s => some (.string s)
  | .slice none n k => if k < UNK then some (.slice none n k) else none
  | .slice (some a) n k => match a.spot with
    | none => if n ≤ k ∧ k < UNK then some (.slice (some ⟨2 * a.block + 1, a.off, none⟩) n k) else none
    | some _ => if n = 0 then some emptyCut else none
  | _ => none
theorem lift_VR {μ : Pl} {v u : Value} (h : liftA v = some u) : VR μ u v := by
  cases v with
  | bool b => simp only [liftA, Option.some.injEq] at h; subst h; exact .bool b
  | int k n => simp only [liftA, Option.some.injEq] at h; subst h; exact .int k n
  | string s => simp only [liftA, Option.some.injEq] at h; subst h; exact .string s
  | slice a n k =>
    cases a with
    | none =>
      simp only [liftA] at h
      split at h
      · rename_i hk; simp only [Option.some.injEq] at h; subst h; exact .sl0 n k hk
      · cases h
    | some a =>
      simp only [liftA] at h
      split at h
      · rename_i hs
        split at h
        · rename_i hk
          simp only [Option.some.injEq] at h; subst h
          exact .sl n k ⟨rfl, hs, rfl, .inl ⟨by show (2 * a.block + 1) % 2 = 1; omega, by show a.block = (2 * a.block + 1) / 2; omega⟩⟩ hk.1 hk.2
        · cases h
      · split at h
        · rename_i hn
          simp only [Option.some.injEq] at h; subst h; subst hn
          exact .slE a k
        · cases h
  | _ => cases h

/-- The memory that lay there. -/
def oldOf (W : World) : Old := fun b o => (W.cell? ⟨b, o, none⟩).bind liftA

theorem cell_lt {W : World} {a : Addr} {v : Value} (h : W.cell? a = some v) : a.block < W.heap.size := by
  unfold World.cell? at h
  cases hb : W.heap[a.block]? with
  | none => rw [hb] at h; cases h
  | some o => exact (Array.getElem?_eq_some_iff.1 hb).1
theorem cell_spot {W : World} {a : Addr} {v : Value} (h : W.cell? a = some v) : a.spot = none := by
  unfold World.cell? at h
  cases hb : W.heap[a.block]? with
  | none => rw [hb] at h; cases h
  | some o =>
    rw [hb] at h
    cases o with
    | cells c _ _ =>
      simp only at h
      cases hs : a.spot with
      | none => rfl
      | some s => rw [hs] at h; cases h
    | _ => cases h

theorem sim_start (P : Program) (W : World) : Sim P (oldOf W) W.heap.size (fun _ => none) ⟨0, .nil⟩ W where
  le := Nat.le_refl _
  old := fun b o v h => by
    simp only [oldOf, Option.bind_eq_some_iff] at h
    obtain ⟨c, h1, h2⟩ := h
    exact ⟨cell_lt h1, c, h1, lift_VR h2⟩
  blk := fun i p h => by cases h
  inj := fun i j p q h => by cases h
  wf := fun i _ h => by
    have : (⟨0, .nil⟩ : AH).blk i = .dead := rfl
    rw [this] at h
    exact h

/-! ### Shapes of types; data -/
inductive Sh where
  | int (k : IntKind)
  | bool
  | str
  | slice (size bytes : Nat) (e : Sh)
  | struct (cells : Nat) (l : List (Nat × Nat × Sh))

def shT (P : Program) : Nat → TypeId → Option Sh
  | 0, _ => none
  | f + 1, t => match P.underlying t with
    | some (.int k) => some (.int k)
    | some .bool => some .bool
    | some .string => some .str
    | some (.slice e) => match shT P f e with
      | some s => if 1 ≤ P.cellsOf e then some (.slice (P.cellsOf e) (P.bytesOf e) s) else none
      | none => none
    | some (.struct fs) => match fs.toList.mapM fun g => (shT P f g.type).map fun s => (g.offset, P.cellsOf g.type, s) with
      | some l => if (List.range (P.cellsOf t)).all (fun k => l.any fun p => decide (p.1 ≤ k) && decide (k < p.1 + p.2.1)) then some (.struct (P.cellsOf t) l) else none
      | none => none
    | _ => none

inductive Dat where
  | int (n : Int)
  | bool (b : Bool)
  | str (s : ByteArray)
  | sl (l : List Dat)
  | ag (l : List Dat)

/-- The cells read as the datum, in the old memory M. -/
def RdD (M : Old) : Nat → Sh → List Value → Dat → Prop
  | 0, _, _, _ => False
  | _ + 1, .int k, cs, d => ∃ n, cs = [.int k n] ∧ d = .int n ∧ k.min ≤ n ∧ n ≤ k.max
  | _ + 1, .bool, cs, d => ∃ b, cs = [.bool b] ∧ d = .bool b
  | _ + 1, .str, cs, d => ∃ s, cs = [.string s] ∧ d = .str s ∧ s.size ≤ reachBytes
  | f + 1, .slice size bytes e, cs, d =>
    (cs = [.slice none 0 0] ∧ d = .sl []) ∨ (cs = [emptyCut] ∧ d = .sl []) ∨
    ∃ (b o cap : Nat) (l : List Dat), cs = [.slice (some ⟨2 * b + 1, o, none⟩) l.length cap] ∧ d = .sl l ∧ l.length ≤ cap ∧ cap < UNK ∧ l.length * bytes ≤ reachBytes ∧
      ∀ (i : Nat) (x : Dat), l[i]? = some x → ∃ cs' : List Value, cs'.length = size ∧ (∀ (k : Nat) (v : Value), cs'[k]? = some v → M b (o + (i * size + k)) = some v) ∧ RdD M f e cs' x
  | f + 1, .struct n fs, cs, d => ∃ l, d = .ag l ∧ cs.length = n ∧ l.length = fs.length ∧ ∀ (i off sz : Nat) (s : Sh) (x : Dat), fs[i]? = some (off, sz, s) → l[i]? = some x → RdD M f s ((cs.drop off).take sz) x

def liftL : List Value → Option (List Value)
  | [] => some []
  | v :: l => match liftA v, liftL l with
    | some u, some r => some (u :: r)
    | _, _ => none
theorem liftL_get : ∀ {l r : List Value}, liftL l = some r → r.length = l.length ∧ ∀ (i : Nat) (v : Value), l[i]? = some v → ∃ u, r[i]? = some u ∧ liftA v = some u
  | [], r, h => by simp only [liftL, Option.some.injEq] at h; subst h; exact ⟨rfl, fun i v hv => by simp at hv⟩
  | v :: l, r, h => by
    simp only [liftL] at h
    split at h
    · rename_i u s hu hs
      simp only [Option.some.injEq] at h
      subst h
      obtain ⟨h1, h2⟩ := liftL_get hs
      refine ⟨by simp [h1], fun i w hw => ?_⟩
      cases i with
      | zero => simp at hw; subst hw; exact ⟨u, by simp, hu⟩
      | succ i => obtain ⟨x, hx, hy⟩ := h2 i w (by simpa using hw); exact ⟨x, by simpa using hx, hy⟩
    · cases h
theorem liftL_of : ∀ {l : List Value}, (∀ (i : Nat) (v : Value), l[i]? = some v → ∃ u, liftA v = some u) → ∃ r, liftL l = some r
  | [], _ => ⟨[], rfl⟩
  | v :: l, h => by
    obtain ⟨u, hu⟩ := h 0 v rfl
    obtain ⟨r, hr⟩ := liftL_of (l := l) fun i w hw => h (i + 1) w (by simpa using hw)
    exact ⟨u :: r, by simp only [liftL, hu, hr]⟩
theorem liftL_VRL {μ : Pl} {l r : List Value} (h : liftL l = some r) : VRL μ r l := by
  obtain ⟨h1, h2⟩ := liftL_get h
  refine ⟨h1, fun i u hu => ?_⟩
  have hi : i < l.length := by have := (List.getElem?_eq_some_iff.1 hu).1; omega
  have hl := List.getElem?_eq_getElem hi
  obtain ⟨u', hu', hv⟩ := h2 i _ hl
  rw [hu] at hu'
  cases hu'
  exact ⟨_, hl, lift_VR hv⟩

theorem cells_mem {W : World} {base : Nat} {a : Addr} {n : Nat} {cs : List Value} (h : W.cells? base a n = some cs) : cs.length = n ∧ ∀ k, k < n → W.cell? (a.add k) = cs[k]? := by
  unfold World.cells? at h
  split at h
  · refine ⟨by simpa using mapM_some_length h, fun k hk => ?_⟩
    exact mapM_some_get h k k (by simp [hk])
  · cases h

theorem add_addr {a : Addr} {n : Nat} (h : a.spot = none) : a.add n = ⟨a.block, a.off + n, none⟩ := by
  unfold Addr.add
  split
  · subst_vars; cases a; simp_all
  · rfl

theorem weights_elem {H : Type} {P : Program} {e : TypeId} : ∀ {l : List (DataW H)} {d : DataW H}, d ∈ l → ∀ n ∈ d.weights P e, n ∈ DataW.weightsAll P e l
  | x :: l, d, hd, n, hn => by
    simp only [DataW.weightsAll, List.mem_append]
    rcases List.mem_cons.1 hd with rfl | hd
    · exact .inl hn
    · exact .inr (weights_elem hd n hn)

theorem choose_list {α : Type} {p : Nat → α → Prop} : ∀ n, (∀ i, i < n → ∃ d, p i d) → ∃ l : List α, l.length = n ∧ ∀ (i : Nat) (x : α), l[i]? = some x → p i x
  | 0, _ => ⟨[], rfl, fun i x hx => by simp at hx⟩
  | n + 1, h => by
    obtain ⟨l, h1, h2⟩ := choose_list n fun i hi => h i (by omega)
    obtain ⟨d, hd⟩ := h n (by omega)
    refine ⟨l ++ [d], by simp [h1], fun i x hx => ?_⟩
    by_cases hi : i < l.length
    · rw [List.getElem?_append_left hi] at hx
      exact h2 i x hx
    · rw [List.getElem?_append_right (by omega)] at hx
      have hi' : i - l.length = 0 := by have := (List.getElem?_eq_some_iff.1 hx).1; simp at this; omega
      rw [hi'] at hx
      simp at hx
      subst hx
      have : i = n := by omega
      subst this
      exact hd
theorem liftL_append : ∀ {l r l' r' : List Value}, liftL l = some r → liftL l' = some r' → liftL (l ++ l') = some (r ++ r')
  | [], r, l', r', h, h' => by simp only [liftL, Option.some.injEq] at h; subst h; exact h'
  | v :: l, r, l', r', h, h' => by
    simp only [liftL] at h
    split at h
    · rename_i u s hu hs
      simp only [Option.some.injEq] at h
      subst h
      simp only [List.cons_append, liftL, hu, liftL_append hs h']
    · cases h
theorem liftL_sub {l r : List Value} (h : liftL l = some r) {o n : Nat} {us : List Value} (h' : liftL ((l.drop o).take n) = some us) : us = (r.drop o).take n := by
  obtain ⟨h1, h2⟩ := liftL_get h
  obtain ⟨h3, h4⟩ := liftL_get h'
  apply List.ext_getElem?
  intro i
  by_cases hi : i < us.length
  · have hi2 : i < ((l.drop o).take n).length := by omega
    obtain ⟨u, hu, hv⟩ := h4 i _ (List.getElem?_eq_getElem hi2)
    have hi3 : o + i < l.length := by simp at hi2; omega
    obtain ⟨u', hu', hv'⟩ := h2 (o + i) _ (List.getElem?_eq_getElem hi3)
    have e : ((l.drop o).take n)[i] = l[o + i] := by simp
    rw [e, hv'] at hv
    cases hv
    have hn : i < n := by simp at hi2; omega
    rw [hu, List.getElem?_take, if_pos hn, List.getElem?_drop, hu']
  · rw [List.getElem?_eq_none (by omega), List.getElem?_eq_none (by simp at h3 ⊢; omega)]

/-- A reading is lifted: the cells, lifted, read as some datum. -/
theorem rd_of_trod {H : Type} {enc : TypeId × Value → H} {P : Program} {W : World} : ∀ (f : Nat) (t : TypeId) (sh : Sh) (fuel : Nat) (cs : List Value) (x : DataW H × List MemPlace),
    shT P f t = some sh → DataW.trod enc P W 0 (fun _ => true) true fuel t cs = some x → (∀ n ∈ x.1.weights P t, n ≤ reachBytes) → ∃ us d, liftL cs = some us ∧ RdD (oldOf W) f sh us d
  | 0, _, _, _, _, _, h, _, _ => by cases h
  | f + 1, t, sh, fuel, cs, x, hs, h, hw => by
    simp only [shT] at hs
    split at hs
    · rename_i k hu
      cases hs
      obtain ⟨n, rfl, rfl, hwf⟩ := DataW.trod_int hu h
      simp only [Lit.wf, Bool.and_eq_true, decide_eq_true_eq] at hwf
      exact ⟨[.int k n], .int n, rfl, by simp only [RdD]; exact ⟨n, rfl, rfl, hwf.1, hwf.2⟩⟩
    · rename_i hu
      cases hs
      cases fuel with
      | zero => simp [DataW.trod] at h
      | succ fuel =>
        unfold DataW.trod at h
        rw [hu] at h
        match cs, h with
        | [.bool b], _ => exact ⟨[.bool b], .bool b, rfl, by unfold RdD; exact ⟨b, rfl, rfl⟩⟩
    · rename_i hu
      cases hs
      obtain ⟨s, rfl, rfl, hl⟩ := DataW.trod_string hu h
      refine ⟨[.string s], .str s, rfl, ?_⟩
      have := hw s.data.toList.length (by simp [DataW.weights])
      simp only [RdD]
      exact ⟨s, rfl, rfl, by simpa using this⟩
    · rename_i e hu
      split at hs
      · rename_i se hse
        split at hs
        · rename_i hce
          cases hs
          rcases DataW.trod_slice hu h with ⟨rfl, rfl⟩ | ⟨a, len, cap, elems, rest, n, rfl, rfl, rfl, hb, hl, hm, hlen, hel, hsp, hns⟩
          · exact ⟨[.slice none 0 0], .sl [], by simp [liftL, liftA, UNK], by unfold RdD; exact .inl ⟨rfl, rfl⟩⟩
          · have hbig : (elems.length + rest.length) * P.bytesOf e ≤ reachBytes := hw _ (by simp [DataW.weights, hu])
            have hz : len * P.bytesOf e ≤ reachBytes := Nat.le_trans (Nat.mul_le_mul_right _ (by omega)) hbig
            have each : ∀ i y, elems[i]? = some y → ∃ cs', W.cells? 0 (a.add (i * P.cellsOf e)) (P.cellsOf e) = some cs' ∧ DataW.trod enc P W 0 (fun _ => true) true n e cs' = some y := by
              intro i y hy
              have hi : i < len := by have := (List.getElem?_eq_some_iff.1 hy).1; omega
              have := hel i hi
              rw [hy, Option.bind_eq_some_iff] at this
              exact this
            by_cases hspot : a.spot = none
            · have hmem : ∀ i, i < len → ∃ d : Dat, ∃ cs' : List Value, cs'.length = P.cellsOf e ∧ (∀ (k : Nat) (v : Value), cs'[k]? = some v → oldOf W a.block (a.off + (i * P.cellsOf e + k)) = some v) ∧ RdD (oldOf W) f se cs' d := by
                intro i hi
                have hy := List.getElem?_eq_getElem (show i < elems.length by omega)
                obtain ⟨cs', h1, h2⟩ := each i _ hy
                obtain ⟨h3, h4⟩ := cells_mem h1
                obtain ⟨us, d, h5, h6⟩ := rd_of_trod f e se n cs' _ hse h2 fun q hq => hw q (by
                  simp only [DataW.weights, hu, List.mem_cons, List.mem_append]
                  exact .inr (.inl (weights_elem (List.mem_map.2 ⟨_, List.mem_of_getElem? hy, rfl⟩) q hq)))
                obtain ⟨h7, h8⟩ := liftL_get h5
                refine ⟨d, us, by omega, fun k v hk => ?_, h6⟩
                have hkl : k < cs'.length := by have := (List.getElem?_eq_some_iff.1 hk).1; omega
                have h9 := List.getElem?_eq_getElem hkl
                obtain ⟨u, hu1, hu2⟩ := h8 k _ h9
                rw [hk] at hu1
                cases hu1
                have h10 := h4 k (by omega)
                rw [add_addr hspot, add_addr rfl, h9] at h10
                unfold oldOf
                have e1 : a.off + (i * P.cellsOf e + k) = a.off + i * P.cellsOf e + k := by omega
                rw [e1, h10]
                exact hu2
              obtain ⟨l, h1, h2⟩ := choose_list len hmem
              have hcap : cap < UNK := by
                have h1 : maxLen < UNK := by decide
                omega
              refine ⟨[.slice (some ⟨2 * a.block + 1, a.off, none⟩) len cap], .sl l, by simp [liftL, liftA, hspot, hl, hcap], ?_⟩
              simp only [RdD]
              exact .inr (.inr ⟨a.block, a.off, cap, l, by rw [h1], rfl, by omega, hcap, by rw [h1]; exact hz, h2⟩)
            · -- an empty one
              obtain ⟨s, hsome⟩ : ∃ s, a.spot = some s := by cases hs : a.spot with | none => exact absurd hs hspot | some s => exact ⟨s, rfl⟩
              by_cases hlen0 : len = 0
              · subst hlen0
                exact ⟨[emptyCut], .sl [], by simp [liftL, liftA, hsome], by unfold RdD; exact .inr (.inl ⟨rfl, rfl⟩)⟩
              · exfalso
                obtain ⟨cs', h1, h2⟩ := each 0 _ (List.getElem?_eq_getElem (by omega))
                obtain ⟨h3, h4⟩ := cells_mem h1
                have h5 := h4 0 (by omega)
                have h6 : (a.add (0 * P.cellsOf e)).add 0 = a := by simp [Addr.add]
                rw [h6, List.getElem?_eq_getElem (by omega)] at h5
                have := cell_spot h5
                rw [hsome] at this
                cases this
        · cases hs
      · cases hs
    · rename_i fs hu
      obtain ⟨xs, n, rfl, rfl, hlen, hxl, hxs⟩ := DataW.trod_struct hu h
      split at hs
      · rename_i l hm
        split at hs
        · rename_i hcov
          cases hs
          have hll : l.length = fs.size := by simpa using mapM_some_length hm
          have hfld : ∀ i, i < fs.size → ∃ (g : Field) (s : Sh), fs[i]? = some g ∧ l[i]? = some (g.offset, P.cellsOf g.type, s) ∧ shT P f g.type = some s := by
            intro i hi
            have hg : fs[i]? = some fs[i] := Array.getElem?_eq_getElem hi
            have := mapM_some_get hm i fs[i] (by simpa using hg)
            have hli := List.getElem?_eq_getElem (show i < l.length by omega)
            rw [hli] at this
            cases hsh : shT P f fs[i].type with
            | none => rw [hsh] at this; simp at this
            | some s => rw [hsh] at this; simp only [Option.map_some, Option.some.injEq] at this; exact ⟨fs[i], s, hg, by rw [hli, this], hsh⟩
          have hone : ∀ i, i < fs.size → ∃ (g : Field) (s : Sh) (us : List Value) (d : Dat), fs[i]? = some g ∧ l[i]? = some (g.offset, P.cellsOf g.type, s) ∧ liftL ((cs.drop g.offset).take (P.cellsOf g.type)) = some us ∧ RdD (oldOf W) f s us d := by
            intro i hi
            obtain ⟨g, s, h1, h2, h3⟩ := hfld i hi
            have h4 := hxs i g h1
            have hxi := List.getElem?_eq_getElem (show i < xs.length by omega)
            rw [hxi] at h4
            obtain ⟨us, d, h5, h6⟩ := rd_of_trod f g.type s n _ _ h3 h4 fun q hq => hw q (by
              simp only [DataW.weights, hu]
              refine DataW.weights_mem_each (j := i) (t := g.type) (d := xs[i].1) ?_ ?_ q hq
              · rw [List.getElem?_map]; simp [h1]
              · rw [List.getElem?_map, hxi]; rfl)
            exact ⟨g, s, us, d, h1, h2, h5, h6⟩
          obtain ⟨us, hus⟩ := liftL_of (l := cs) fun k v hk => by
            have hkl : k < cs.length := (List.getElem?_eq_some_iff.1 hk).1
            have hc := List.all_eq_true.1 hcov k (by simp; omega)
            obtain ⟨p, hp, hpk⟩ := List.any_eq_true.1 hc
            simp only [Bool.and_eq_true, decide_eq_true_eq] at hpk
            obtain ⟨i, hi, hip⟩ := List.getElem_of_mem hp
            obtain ⟨g, s, us, d, h1, h2, h3, _⟩ := hone i (by omega)
            rw [List.getElem?_eq_getElem hi, hip, Option.some.injEq] at h2
            subst h2
            obtain ⟨_, h5⟩ := liftL_get h3
            obtain ⟨u, _, hu2⟩ := h5 (k - g.offset) v (by
              simp only at hpk
              rw [List.getElem?_take, if_pos (by omega), List.getElem?_drop, show g.offset + (k - g.offset) = k by omega]; exact hk)
            exact ⟨u, hu2⟩
          obtain ⟨ds, hd1, hd2⟩ := choose_list (p := fun i d => ∀ (off sz : Nat) (s : Sh), l[i]? = some (off, sz, s) → RdD (oldOf W) f s ((us.drop off).take sz) d) fs.size fun i hi => by
            obtain ⟨g, s, us', d, h1, h2, h3, h4⟩ := hone i hi
            refine ⟨d, fun off sz s' hs' => ?_⟩
            rw [h2] at hs'
            cases hs'
            rw [← liftL_sub hus h3]
            exact h4
          refine ⟨us, .ag ds, hus, ?_⟩
          simp only [RdD]
          exact ⟨ds, rfl, by have := (liftL_get hus).1; omega, by omega, fun i off sz s x h1 h2 => hd2 i x h2 off sz s h1⟩
        · cases hs
      · cases hs
    · cases hs
end Go.Proofs.AM

namespace Go.Proofs.AM
open Go
set_option linter.unusedSimpArgs false
set_option linter.unusedVariables false

/-! ### More fuel does no harm -/
def CfLe (cf cf' : CallF) : Prop := ∀ g args A r, cf g args A = some r → cf' g args A = some r
def ExLe (ex ex' : IC → Code_) : Prop := ∀ c fr A r, ex c fr A = some r → ex' c fr A = some r

section
variable {M : Old} {F : Tbl}

theorem opR_le {cf cf' : CallF} (h : CfLe cf cf') (q : IOp) (ρ : Env) (A : AH) {r : Value × AH} (ho : opR q M cf ρ A = some r) : opR q M cf' ρ A = some r := by
  cases q with
  | call f args =>
    simp only [opR, opC] at ho ⊢
    cases hc : callR f args ρ with
    | none => rw [hc] at ho; cases ho
    | some ga => rw [hc] at ho; exact h _ _ _ _ ho
  | _ => exact ho

theorem runOps_le {cf cf' : CallF} (h : CfLe cf cf') : ∀ (l : List Iop) (fr : Fr) (A : AH) (r : Fr × AH), runOps M cf l fr A = some r → runOps M cf' l fr A = some r
  | [], fr, A, r, ho => ho
  | o :: l, fr, A, r, ho => by
    simp only [runOps, run1] at ho ⊢
    cases hw : wants o.g fr with
    | false => rw [hw] at ho; exact runOps_le h l _ _ _ ho
    | true =>
      rw [hw, cond_true] at ho
      rw [cond_true]
      cases hr : opR o.op M cf fr.ev A with
      | none => rw [hr] at ho; cases ho
      | some v =>
        obtain ⟨v, A1⟩ := v
        rw [hr] at ho
        rw [opR_le h o.op fr.ev A hr]
        exact runOps_le h l _ _ _ ho

theorem runDrawn_le {cf cf' : CallF} (h : CfLe cf cf') : ∀ (l : List Iop) (fr : Fr) (A : AH) (hist : List AH) (j : Nat) (pend : List Pend) (r : Fr × AH), runDrawn M cf l fr A hist j pend = some r → runDrawn M cf' l fr A hist j pend = some r
  | [], fr, A, hist, j, pend, r, ho => ho
  | o :: l, fr, A, hist, j, pend, r, ho => by
    have hE : ∀ (fr : Fr) (hist : List AH) (j : Nat) (pend : List Pend) (x : Option (Value × AH)), dE M (runDrawn M cf l) o.dst fr hist j pend x = some r → dE M (runDrawn M cf' l) o.dst fr hist j pend x = some r := by
      intro fr hist j pend x hx
      cases x with
      | none => exact hx
      | some v =>
        obtain ⟨v, A1⟩ := v
        simp only [dE] at hx ⊢
        obtain ⟨h1, h2⟩ := cond_inv hx
        rw [h1, cond_true]
        exact runDrawn_le h l _ _ _ _ _ _ h2
    simp only [runDrawn] at ho ⊢
    cases hw : wants o.g fr with
    | false =>
      rw [hw, cond_false] at ho
      rw [cond_false]
      cases he : o.op.eff with
      | true => rw [he, cond_true] at ho; rw [cond_true]; exact hE _ _ _ _ _ ho
      | false => rw [he, cond_false] at ho; rw [cond_false]; exact runDrawn_le h l _ _ _ _ _ _ ho
    | true =>
      rw [hw, cond_true] at ho
      rw [cond_true]
      cases hq : o.op with
      | p q =>
        rw [hq] at ho
        simp only [drawn1] at ho ⊢
        cases hr : pureR q fr.ev with
        | none => rw [hr] at ho; cases ho
        | some v => rw [hr] at ho; exact runDrawn_le h l _ _ _ _ _ _ ho
      | r q =>
        rw [hq] at ho
        simp only [drawn1] at ho ⊢
        cases hr : readR q M fr.ev A with
        | none => rw [hr] at ho; cases ho
        | some v =>
          rw [hr] at ho
          simp only [dR] at ho ⊢
          obtain ⟨h1, h2⟩ := cond_inv ho
          rw [h1, cond_true]
          exact runDrawn_le h l _ _ _ _ _ _ h2
      | n q =>
        rw [hq] at ho
        simp only [drawn1] at ho ⊢
        cases hr : newR q fr.ev with
        | none => rw [hr] at ho; cases ho
        | some v => obtain ⟨b, mk⟩ := v; rw [hr] at ho; exact runDrawn_le h l _ _ _ _ _ _ ho
      | e q => rw [hq] at ho; exact hE _ _ _ _ _ ho
      | call f args =>
        rw [hq] at ho
        simp only [drawn1] at ho ⊢
        cases hc : callR f args fr.ev with
        | none => rw [hc] at ho; cases ho
        | some ga =>
          rw [hc] at ho
          simp only [andC] at ho ⊢
          cases hr : cf ga.1 ga.2 A with
          | none => rw [hr] at ho; cases ho
          | some v =>
            rw [hr] at ho
            rw [h _ _ _ _ hr]
            exact hE _ _ _ _ _ ho

theorem callW_le {ex ex' : IC → Code_} (h : ExLe ex ex') : CfLe (callW M F ex) (callW M F ex') := by
  intro g args A r ho
  unfold callW at ho ⊢
  cases hg : F g with
  | none => rw [hg] at ho; cases ho
  | some e =>
    rw [hg] at ho
    cases e with
    | orc s => exact ho
    | code fn =>
      simp only [enterE, enterF] at ho ⊢
      obtain ⟨h1, h2⟩ := cond_inv ho
      rw [h1, cond_true]
      cases hx : ex fn.body (T.setL .nil 0 args) A with
      | none => rw [hx] at h2; cases h2
      | some x => rw [hx] at h2; rw [h _ _ _ _ hx]; exact h2

theorem exec_le : ∀ n, ExLe (exec M F n) (exec M F (n + 1))
  | 0 => fun c fr A r h => by cases h
  | n + 1 => by
    have ih := exec_le n
    have ihc := callW_le (M := M) (F := F) ih
    intro c fr A r h
    have hthen : ∀ (k k' : Code_) (x x' : Option (Ex × Fr × AH)), (∀ fr A r, k fr A = some r → k' fr A = some r) → (∀ r, x = some r → x' = some r) → thenX k x = some r → thenX k' x' = some r := by
      intro k k' x x' hk hx h
      cases x with
      | none => cases h
      | some t =>
        rw [hx t rfl]
        obtain ⟨y, f, B⟩ := t
        cases y with
        | normal => exact hk _ _ _ h
        | _ => exact h
    show stepI M F (exec M F (n + 1)) c fr A = some r
    have h : stepI M F (exec M F n) c fr A = some r := h
    cases c with
    | skip => exact h
    | exit id => exact h
    | ret => exact h
    | ops l =>
      simp only [stepI] at h ⊢
      cases hr : runOps M (callW M F (exec M F n)) l fr A with
      | none => rw [hr] at h; cases h
      | some t => rw [hr] at h; rw [runOps_le ihc l fr A t hr]; exact h
    | drawn l =>
      simp only [stepI] at h ⊢
      cases hr : runDrawn M (callW M F (exec M F n)) l fr A [A] 0 [] with
      | none => rw [hr] at h; cases h
      | some t => rw [hr] at h; rw [runDrawn_le ihc l fr A [A] 0 [] t hr]; exact h
    | seq a b => exact hthen _ _ _ _ (fun fr A r => ih b fr A r) (fun r => ih a fr A r) h
    | loop a => exact hthen _ _ _ _ (fun fr A r => ih (.loop a) fr A r) (fun r => ih a fr A r) h
    | cond c t e =>
      simp only [stepI] at h ⊢
      cases hv : fr.ev c with
      | bool z => rw [hv] at h; exact ih _ _ _ _ h
      | _ => rw [hv] at h; cases h
    | block id a =>
      simp only [stepI] at h ⊢
      cases hr : exec M F n a fr A with
      | none => rw [hr] at h; cases h
      | some t => rw [hr] at h; rw [ih _ _ _ _ hr]; exact h
theorem exec_more {n m : Nat} (h : n ≤ m) : ExLe (exec M F n) (exec M F m) := by
  induction m with
  | zero => have : n = 0 := by omega
            subst this; exact fun _ _ _ _ h => h
  | succ m ih =>
    by_cases e : n = m + 1
    · subst e; exact fun _ _ _ _ h => h
    · exact fun c fr A r hr => exec_le m c fr A r (ih (by omega) c fr A r hr)
theorem call_more {n m : Nat} (h : n ≤ m) : CfLe (call M F n) (call M F m) := callW_le (exec_more h)

/-! ### What code does, the fuel left out -/
/-- The code comes to an end such that Q. -/
def W (M : Old) (F : Tbl) (c : IC) (fr : Fr) (A : AH) (Q : Ex → Fr → AH → Prop) : Prop := ∃ n x fr' A', exec M F n c fr A = some (x, fr', A') ∧ Q x fr' A'
def WO (M : Old) (F : Tbl) (l : List Iop) (fr : Fr) (A : AH) (Q : Fr → AH → Prop) : Prop := ∃ n fr' A', runOps M (call M F n) l fr A = some (fr', A') ∧ Q fr' A'
def WD (M : Old) (F : Tbl) (l : List Iop) (fr : Fr) (A : AH) (hist : List AH) (j : Nat) (pend : List Pend) (Q : Fr → AH → Prop) : Prop := ∃ n fr' A', runDrawn M (call M F n) l fr A hist j pend = some (fr', A') ∧ Q fr' A'
/-- The call returns such that Q. -/
def WC (M : Old) (F : Tbl) (g : Nat) (args : List Value) (A : AH) (Q : Value → AH → Prop) : Prop := ∃ n v A', call M F n g args A = some (v, A') ∧ Q v A'

theorem W.mono {c : IC} {fr : Fr} {A : AH} {Q Q' : Ex → Fr → AH → Prop} (h : W M F c fr A Q) (hq : ∀ x fr A, Q x fr A → Q' x fr A) : W M F c fr A Q' :=
  let ⟨n, x, fr', A', h1, h2⟩ := h; ⟨n, x, fr', A', h1, hq _ _ _ h2⟩
theorem WC.mono {g : Nat} {args : List Value} {A : AH} {Q Q' : Value → AH → Prop} (h : WC M F g args A Q) (hq : ∀ v A, Q v A → Q' v A) : WC M F g args A Q' :=
  let ⟨n, v, A', h1, h2⟩ := h; ⟨n, v, A', h1, hq _ _ h2⟩

def thenQ (f : Fr → AH → Prop) (Q : Ex → Fr → AH → Prop) : Ex → Fr → AH → Prop
  | .normal => f
  | x => Q x
def blockQ (id : Nat) (Q : Ex → Fr → AH → Prop) : Ex → Fr → AH → Prop
  | .exit i => fun fr A => if i = id then Q .normal fr A else Q (.exit i) fr A
  | x => Q x

theorem W.skip {fr : Fr} {A : AH} {Q : Ex → Fr → AH → Prop} (h : Q .normal fr A) : W M F .skip fr A Q := ⟨1, _, _, _, rfl, h⟩
theorem W.exit {id : Nat} {fr : Fr} {A : AH} {Q : Ex → Fr → AH → Prop} (h : Q (.exit id) fr A) : W M F (.exit id) fr A Q := ⟨1, _, _, _, rfl, h⟩
theorem W.ret {fr : Fr} {A : AH} {Q : Ex → Fr → AH → Prop} (h : Q .ret fr A) : W M F .ret fr A Q := ⟨1, _, _, _, rfl, h⟩
theorem W.ops {l : List Iop} {fr : Fr} {A : AH} {Q : Ex → Fr → AH → Prop} (h : WO M F l fr A (Q .normal)) : W M F (.ops l) fr A Q := by
  obtain ⟨n, fr', A', h1, h2⟩ := h
  refine ⟨n + 1, .normal, fr', A', ?_, h2⟩
  show fin (runOps M (call M F n) l fr A) = _
  rw [h1]; rfl
theorem W.drawn {l : List Iop} {fr : Fr} {A : AH} {Q : Ex → Fr → AH → Prop} (h : WD M F l fr A [A] 0 [] (Q .normal)) : W M F (.drawn l) fr A Q := by
  obtain ⟨n, fr', A', h1, h2⟩ := h
  refine ⟨n + 1, .normal, fr', A', ?_, h2⟩
  show fin (runDrawn M (call M F n) l fr A [A] 0 []) = _
  rw [h1]; rfl
theorem W.seq {a b : IC} {fr : Fr} {A : AH} {Q : Ex → Fr → AH → Prop} (h : W M F a fr A (thenQ (fun fr A => W M F b fr A Q) Q)) : W M F (.seq a b) fr A Q := by
  obtain ⟨n, x, fr1, A1, h1, h2⟩ := h
  cases x with
  | normal =>
    obtain ⟨m, y, fr2, A2, h3, h4⟩ := h2
    refine ⟨max n m + 1, y, fr2, A2, ?_, h4⟩
    show thenX (exec M F (max n m) b) (exec M F (max n m) a fr A) = _
    rw [exec_more (Nat.le_max_left n m) _ _ _ _ h1]
    exact exec_more (Nat.le_max_right n m) _ _ _ _ h3
  | exit i =>
    refine ⟨n + 1, _, fr1, A1, ?_, h2⟩
    show thenX (exec M F n b) (exec M F n a fr A) = _
    rw [h1]; rfl
  | ret =>
    refine ⟨n + 1, _, fr1, A1, ?_, h2⟩
    show thenX (exec M F n b) (exec M F n a fr A) = _
    rw [h1]; rfl
theorem W.loop {a : IC} {fr : Fr} {A : AH} {Q : Ex → Fr → AH → Prop} (h : W M F a fr A (thenQ (fun fr A => W M F (.loop a) fr A Q) Q)) : W M F (.loop a) fr A Q := by
  obtain ⟨n, x, fr1, A1, h1, h2⟩ := h
  cases x with
  | normal =>
    obtain ⟨m, y, fr2, A2, h3, h4⟩ := h2
    refine ⟨max n m + 1, y, fr2, A2, ?_, h4⟩
    show thenX (exec M F (max n m) (.loop a)) (exec M F (max n m) a fr A) = _
    rw [exec_more (Nat.le_max_left n m) _ _ _ _ h1]
    exact exec_more (Nat.le_max_right n m) _ _ _ _ h3
  | exit i =>
    refine ⟨n + 1, _, fr1, A1, ?_, h2⟩
    show thenX (exec M F n (.loop a)) (exec M F n a fr A) = _
    rw [h1]; rfl
  | ret =>
    refine ⟨n + 1, _, fr1, A1, ?_, h2⟩
    show thenX (exec M F n (.loop a)) (exec M F n a fr A) = _
    rw [h1]; rfl
/-- A loop by a count that falls. -/
theorem W.rounds {a : IC} {Q : Ex → Fr → AH → Prop} (I : Nat → Fr → AH → Prop) (h : ∀ n fr A, I n fr A → W M F a fr A (thenQ (fun fr A => ∃ m, m < n ∧ I m fr A) Q)) : ∀ n fr A, I n fr A → W M F (.loop a) fr A Q := by
  intro n
  induction n using Nat.strongRecOn with
  | _ n ih =>
    intro fr A hI
    refine W.loop ((h n fr A hI).mono fun x fr A hx => ?_)
    cases x with
    | normal => obtain ⟨m, h1, h2⟩ := hx; exact ih m h1 fr A h2
    | exit i => exact hx
    | ret => exact hx
theorem W.cond {c : Operand} {t e : IC} {fr : Fr} {A : AH} {Q : Ex → Fr → AH → Prop} {z : Bool} (hc : fr.ev c = .bool z) (h : W M F (bif z then t else e) fr A Q) : W M F (.cond c t e) fr A Q := by
  obtain ⟨n, x, fr1, A1, h1, h2⟩ := h
  refine ⟨n + 1, x, fr1, A1, ?_, h2⟩
  show condX (fun z => exec M F n (bif z then t else e)) fr A (fr.ev c) = _
  rw [hc]; exact h1
theorem W.block {id : Nat} {a : IC} {fr : Fr} {A : AH} {Q : Ex → Fr → AH → Prop} (h : W M F a fr A (blockQ id Q)) : W M F (.block id a) fr A Q := by
  obtain ⟨n, x, fr1, A1, h1, h2⟩ := h
  cases x with
  | normal => exact ⟨n + 1, .normal, fr1, A1, by show blockX id (exec M F n a fr A) = _; rw [h1]; rfl, h2⟩
  | ret => exact ⟨n + 1, .ret, fr1, A1, by show blockX id (exec M F n a fr A) = _; rw [h1]; rfl, h2⟩
  | exit i =>
    by_cases e : i = id
    · refine ⟨n + 1, .normal, fr1, A1, ?_, by simp only [blockQ, if_pos e] at h2; exact h2⟩
      show blockX id (exec M F n a fr A) = _
      rw [h1]
      simp only [blockX]
      rw [beqEq e]; rfl
    · refine ⟨n + 1, .exit i, fr1, A1, ?_, by simp only [blockQ, if_neg e] at h2; exact h2⟩
      show blockX id (exec M F n a fr A) = _
      rw [h1]
      simp only [blockX]
      rw [beqNe e]; rfl

theorem WO.nil {fr : Fr} {A : AH} {Q : Fr → AH → Prop} (h : Q fr A) : WO M F [] fr A Q := ⟨0, _, _, rfl, h⟩
theorem WO.cons {o : Iop} {l : List Iop} {fr : Fr} {A A1 : AH} {v : Value} {Q : Fr → AH → Prop} (hw : wants o.g fr = true) (ho : ∀ cf, opR o.op M cf fr.ev A = some (v, A1)) (h : WO M F l (putD o.dst v fr) A1 Q) : WO M F (o :: l) fr A Q := by
  obtain ⟨n, fr', A', h1, h2⟩ := h
  refine ⟨n, fr', A', ?_, h2⟩
  simp only [runOps, run1, hw, cond_true, ho, contV, h1]
theorem WO.p {d : Option Nat} {q : POp} {lo hi : Nat} {l : List Iop} {fr : Fr} {A : AH} {v : Value} {Q : Fr → AH → Prop} (ho : pureR q fr.ev = some v) (h : WO M F l (putD d v fr) A Q) : WO M F (⟨d, none, .p q, lo, hi⟩ :: l) fr A Q :=
  WO.cons rfl (fun cf => by simp only [opR, opP, ho, andP]) h
theorem WO.r {d : Option Nat} {q : ROp} {lo hi : Nat} {l : List Iop} {fr : Fr} {A : AH} {v : Value} {Q : Fr → AH → Prop} (ho : readR q M fr.ev A = some v) (h : WO M F l (putD d v fr) A Q) : WO M F (⟨d, none, .r q, lo, hi⟩ :: l) fr A Q :=
  WO.cons rfl (fun cf => by simp only [opR, opRd, ho, andP]) h
theorem WO.n {d : Option Nat} {q : NOp} {lo hi : Nat} {l : List Iop} {fr : Fr} {A : AH} {b : Blk} {mk : Nat → Value} {Q : Fr → AH → Prop} (ho : newR q fr.ev = some (b, mk)) (h : WO M F l (putD d (mk A.next) fr) (A.push b) Q) : WO M F (⟨d, none, .n q, lo, hi⟩ :: l) fr A Q :=
  WO.cons rfl (fun cf => by simp only [opR, opN, ho, andN]) h
theorem WO.e {d : Option Nat} {q : EOp} {lo hi : Nat} {l : List Iop} {fr : Fr} {A A1 : AH} {v : Value} {Q : Fr → AH → Prop} (ho : effR q M fr.ev A = some (v, A1)) (h : WO M F l (putD d v fr) A1 Q) : WO M F (⟨d, none, .e q, lo, hi⟩ :: l) fr A Q :=
  WO.cons rfl (fun cf => by simp only [opR, opE, ho]) h
theorem WO.off {o : Iop} {l : List Iop} {fr : Fr} {A : AH} {Q : Fr → AH → Prop} (hw : wants o.g fr = false) (h : WO M F l (putD o.dst undef fr) A Q) : WO M F (o :: l) fr A Q := by
  obtain ⟨n, fr', A', h1, h2⟩ := h
  refine ⟨n, fr', A', ?_, h2⟩
  simp only [runOps, run1, hw, cond_false, h1]
theorem WO.callG {o : Iop} {f : Operand} {args : List Operand} {l : List Iop} {fr : Fr} {A : AH} {g : Nat} {gs : List Value} {Q : Fr → AH → Prop} (hw : wants o.g fr = true) (hop : o.op = .call f args) (hc : callR f args fr.ev = some (g, gs))
    (h : WC M F g gs A fun v A1 => WO M F l (putD o.dst v fr) A1 Q) : WO M F (o :: l) fr A Q := by
  obtain ⟨n, v, A1, h1, m, fr', A', h2, h3⟩ := h
  refine ⟨max n m, fr', A', ?_, h3⟩
  simp only [runOps, run1, hw, cond_true, hop, opR, opC, hc, andC]
  rw [call_more (Nat.le_max_left n m) _ _ _ _ h1]
  exact runOps_le (call_more (Nat.le_max_right n m)) _ _ _ _ h2
theorem WO.call {d : Option Nat} {f : Operand} {args : List Operand} {lo hi : Nat} {l : List Iop} {fr : Fr} {A : AH} {g : Nat} {gs : List Value} {Q : Fr → AH → Prop} (hc : callR f args fr.ev = some (g, gs))
    (h : WC M F g gs A fun v A1 => WO M F l (putD d v fr) A1 Q) : WO M F (⟨d, none, .call f args, lo, hi⟩ :: l) fr A Q := WO.callG rfl rfl hc h

theorem WD.nil {fr : Fr} {A : AH} {hist : List AH} {j : Nat} {pend : List Pend} {Q : Fr → AH → Prop} (h : Q fr A) : WD M F [] fr A hist j pend Q := ⟨0, _, _, rfl, h⟩
theorem WD.p {d : Option Nat} {q : POp} {lo hi : Nat} {l : List Iop} {fr : Fr} {A : AH} {hist : List AH} {j : Nat} {pend : List Pend} {v : Value} {Q : Fr → AH → Prop} (ho : pureR q fr.ev = some v) (h : WD M F l (putD d v fr) A hist j pend Q) : WD M F (⟨d, none, .p q, lo, hi⟩ :: l) fr A hist j pend Q := by
  obtain ⟨n, fr', A', h1, h2⟩ := h
  exact ⟨n, fr', A', by simp only [runDrawn, wants, cond_true, drawn1, ho, dP, h1], h2⟩
theorem WD.r {d : Option Nat} {q : ROp} {lo hi : Nat} {l : List Iop} {fr : Fr} {A : AH} {hist : List AH} {j : Nat} {pend : List Pend} {v : Value} {Q : Fr → AH → Prop} (ho : readR q M fr.ev A = some v) (hs : sameIn M q fr v (j + 1 - lo) hist = true) (h : WD M F l (putD d v fr) A hist j (⟨hi, q, fr, v⟩ :: pend) Q) : WD M F (⟨d, none, .r q, lo, hi⟩ :: l) fr A hist j pend Q := by
  obtain ⟨n, fr', A', h1, h2⟩ := h
  exact ⟨n, fr', A', by simp only [runDrawn, wants, cond_true, drawn1, ho, dR, hs, h1], h2⟩
theorem WD.n {d : Option Nat} {q : NOp} {lo hi : Nat} {l : List Iop} {fr : Fr} {A : AH} {hist : List AH} {j : Nat} {pend : List Pend} {b : Blk} {mk : Nat → Value} {Q : Fr → AH → Prop} (ho : newR q fr.ev = some (b, mk)) (h : WD M F l (putD d (mk A.next) fr) (A.push b) hist j pend Q) : WD M F (⟨d, none, .n q, lo, hi⟩ :: l) fr A hist j pend Q := by
  obtain ⟨n, fr', A', h1, h2⟩ := h
  exact ⟨n, fr', A', by simp only [runDrawn, wants, cond_true, drawn1, ho, dN, h1], h2⟩
theorem WD.e {d : Option Nat} {q : EOp} {lo hi : Nat} {l : List Iop} {fr : Fr} {A A1 : AH} {hist : List AH} {j : Nat} {pend : List Pend} {v : Value} {Q : Fr → AH → Prop} (ho : effR q M fr.ev A = some (v, A1)) (hs : pendOk M (j + 1) A1 pend = true) (h : WD M F l (putD d v fr) A1 (A1 :: hist) (j + 1) pend Q) : WD M F (⟨d, none, .e q, lo, hi⟩ :: l) fr A hist j pend Q := by
  obtain ⟨n, fr', A', h1, h2⟩ := h
  exact ⟨n, fr', A', by simp only [runDrawn, wants, cond_true, drawn1, ho, dE, hs, h1], h2⟩
theorem WD.call {d : Option Nat} {f : Operand} {args : List Operand} {lo hi : Nat} {l : List Iop} {fr : Fr} {A : AH} {hist : List AH} {j : Nat} {pend : List Pend} {g : Nat} {gs : List Value} {Q : Fr → AH → Prop} (hc : callR f args fr.ev = some (g, gs))
    (h : WC M F g gs A fun v A1 => pendOk M (j + 1) A1 pend = true ∧ WD M F l (putD d v fr) A1 (A1 :: hist) (j + 1) pend Q) : WD M F (⟨d, none, .call f args, lo, hi⟩ :: l) fr A hist j pend Q := by
  obtain ⟨n, v, A1, h1, hs, m, fr', A', h2, h3⟩ := h
  refine ⟨max n m, fr', A', ?_, h3⟩
  simp only [runDrawn, wants, cond_true, drawn1, hc, andC]
  rw [call_more (Nat.le_max_left n m) _ _ _ _ h1]
  simp only [dE, hs, cond_true]
  exact runDrawn_le (call_more (Nat.le_max_right n m)) _ _ _ _ _ _ _ h2

/-- A function entered. -/
def retQ (M : Old) (rs : List Res) (Q : Value → AH → Prop) : Ex → Fr → AH → Prop
  | .exit _ => fun _ _ => False
  | _ => fun fr A => ∃ l, resOf M fr A rs = some l ∧ Q (resV l) A
theorem WC.enter {g : Nat} {fn : IFn} {args : List Value} {A : AH} {Q : Value → AH → Prop} (hg : F g = some (.code fn)) (hn : Nat.ble args.length fn.ntmps = true) (h : W M F fn.body (T.setL .nil 0 args) A (retQ M fn.results Q)) : WC M F g args A Q := by
  obtain ⟨n, x, fr', A', h1, h2⟩ := h
  have main : (∃ l, resOf M fr' A' fn.results = some l ∧ Q (resV l) A') → (∀ l, leaveF2 A' (some l) = leaveF2 A' (some l)) → (leaveF M fn.results (some (x, fr', A')) = leaveF2 A' (resOf M fr' A' fn.results)) → WC M F g args A Q := by
    rintro ⟨l, h3, h4⟩ _ h5
    refine ⟨n, resV l, A', ?_, h4⟩
    show callW M F (exec M F n) g args A = _
    unfold callW
    rw [hg]
    simp only [enterE, enterF, hn, cond_true, h1]
    rw [h5, h3]; rfl
  cases x with
  | exit i => exact h2.elim
  | normal => exact main h2 (fun _ => rfl) rfl
  | ret => exact main h2 (fun _ => rfl) rfl
end
end Go.Proofs.AM

namespace Go.Proofs.AM
open Go
set_option linter.unusedSimpArgs false
set_option linter.unusedVariables false

theorem step_of_grown {P : Program} {M : Old} {base : Nat} {μ : Pl} {A : AH} {w w' : World} (S : Sim P M base μ A w) (g : Grown w w') : Step P M base μ A w μ A w' where
  ext := .refl μ
  dom := fun i p h => .inl h
  nxt := Nat.le_refl _
  sim := {
    le := Nat.le_trans S.le g.size
    old := fun b o v h => by
      obtain ⟨h1, c, h2, h3⟩ := S.old b o v h
      refine ⟨h1, c, ?_, h3⟩
      rw [← h2]
      exact World.cell?_of_block (w := w) (g.frame b (Nat.lt_of_lt_of_le h1 S.le))
    blk := fun i p h hl => by
      obtain ⟨h1, obj, h2, h3⟩ := S.blk i p h hl
      exact ⟨h1, obj, by rw [g.frame p.1 (Array.getElem?_eq_some_iff.1 h2).1]; exact h2, h3⟩
    inj := S.inj
    wf := S.wf }
  img := fun i p h hl => .inl ⟨i, p, h, hl, rfl⟩
  frame := fun c hc _ => g.frame c hc
  size := g.size
  os := g.os
  tape := g.tape
  output := g.output
  abs := fun _ _ _ => rfl

/-- A call whose code the abstract machine runs, from the memory that lay there. -/
theorem start_calls {P : Program} {F : Tbl} {W : World} {g : Nat} {cs us : List Value} (hmix : P.follows .mixedOrders = true) (hT : TblS P (oldOf W) W.heap.size F)
    (hc : VRL (fun _ => none) us cs) (h : WC (oldOf W) F g us ⟨0, .nil⟩ fun r _ => r = .bool true) : Calls P g cs.toArray W fun e W' => e = .returned (.bool true) ∧ RowKit.Below W.heap.size W W' := by
  obtain ⟨n, v, A', h1, rfl⟩ := h
  have hs := am_sound hmix hT n g us ⟨0, .nil⟩ _ A' (fun _ => none) W cs.toArray h1 (sim_start P W) (fun _ _ _ => rfl) (by simpa using hc)
  refine Calls.mono hs.2.2 fun e w' => ?_
  rintro ⟨μ', c, rfl, hv, hst⟩
  refine ⟨by rw [(bool_VR hv true).1 rfl], ⟨hst.os, hst.tape, hst.output, hst.size, fun k hk => hst.frame k hk fun j q hq => (by cases hq)⟩⟩
end Go.Proofs.AM
