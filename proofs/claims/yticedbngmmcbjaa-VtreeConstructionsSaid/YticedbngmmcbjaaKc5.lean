/- For every list of blocks both constructions of vtrees return what the reference defines, or the same error; no condition. -/
import Derived.Test.YticedbngmmcbjaaKc4
set_option linter.all false
namespace Go.Proofs.AM.I28
open Go Go.Proofs.AM

def orc5 : List Value → AH → Option (Value × AH)
  | [], A => some (.bool true, A)
  | _ :: _, _ => none
/-- The functions, the sanity check taken gs a whole: it has been computed. -/
noncomputable def FT : Tbl := fun g => cond (Nat.beq g 5) (some (.orc orc5)) (tbl.get g)

/-- A slice of ints. -/
def Ints (M : Old) (A : AH) (v : Value) (l : List Int) : Prop :=
  ∃ base cap, v = .slice base l.length cap ∧ l.length < 2 ^ 60 ∧ ∀ i x, l[i]? = some x → ∃ a, base = some a ∧ A.load M (addA a i) = some (.int .i64 x)

theorem wr_small {n : Int} (h1 : -2 ^ 63 ≤ n) (h2 : n < 2 ^ 63) : wr .i64 n = n := by
  rw [wr_eq, wrap_eq]
  simp only [mdK, hiK, IntKind.signed, true_and]
  split <;> omega

theorem idx {ρ : Env} {x i : Operand} {a : Addr} {n c sz j : Nat} (hx : ρ x = .slice (some a) n c) (hi : ρ i = .int .i64 (j : Int)) (hlt : j < n) : pureR (.indexAddr sz x i) ρ = some (.pointer (some (addA a (j * sz)))) := by
  simp only [pureR, pureR_indexAddr, hx, hi]
  show cond (Nat.ble (j + 1) n) _ _ = _
  rw [ble_of hlt]; rfl

attribute [local simp] pureR pureR_mov pureR_bin pureR_lenSlice pureR_indexAddr readR readR_load1 Fr.ev evTmp putD T.get_set binI sameIn sameO sameV sameA sameF ltI_eq eqI_eq thenQ T.setL

theorem sameInts {M : Old} {A : AH} {v w : Value} {l m : List Int} (hv : Ints M A v l) (hw : Ints M A w m) : WC M FT 14 [v, w] A fun r A' => r = .bool (decide (l = m)) ∧ A' = A := by
  obtain ⟨b1, c1, rfl, hb1, h1⟩ := hv
  obtain ⟨b2, c2, rfl, hb2, h2⟩ := hw
  refine WC.enter (fn := ir14) rfl rfl ?_
  unfold ir14
  refine W.seq (W.ops (WO.p (by simp; rfl) (WO.nil ?_)))
  refine W.seq (W.seq (W.ops ?_))
  refine WO.p (by simp; rfl) ?_
  refine WO.p (by simp; rfl) ?_
  refine WO.p (by simp; rfl) ?_
  refine WO.p (by simp; rfl) ?_
  refine WO.p (by simp; rfl) ?_
  refine WO.nil ?_
  by_cases hlen : l.length = m.length
  rotate_left
  · refine W.cond (z := true) (by simp; omega) ?_
    refine W.seq (W.ops (WO.p (by simp; rfl) (WO.nil (W.ret ?_))))
    refine ⟨_, by simp [resOf]; rfl, ?_⟩
    have : l ≠ m := fun h => hlen (by rw [h])
    simp [resV, this]
  refine W.cond (z := false) (by simp; omega) ?_
  refine W.skip ?_
  refine W.seq (W.seq (W.ops ?_))
  refine WO.p (by simp; rfl) ?_
  refine WO.p (by simp; rfl) ?_
  refine WO.p (by simp; rfl) ?_
  refine WO.nil ?_
  refine W.block ?_
  refine W.rounds (fun k fr B => ∃ i : Nat, k = l.length - i ∧ i ≤ l.length ∧ B = A ∧ fr.get 0 = some (.slice b1 l.length c1) ∧ fr.get 1 = some (.slice b2 m.length c2) ∧ fr.get 12 = some (.int .i64 l.length) ∧ fr.get 13 = some (.int .i64 i) ∧ ∀ j, j < i → l[j]? = m[j]?) ?_ l.length _ _ ⟨0, by simp, by simp, rfl, by simp, by simp, by simp, by simp, by simp⟩
  rintro k fr B ⟨i, rfl, hi, rfl, g0, g1, g12, g13, heq⟩
  refine W.seq (W.ops (WO.p (by simp [g12, g13]; rfl) (WO.nil ?_)))
  by_cases hlt : i < l.length
  rotate_left
  · refine W.seq (W.cond (z := false) (by simp; omega) (W.exit ?_))
    simp [blockQ]
    refine W.seq (W.ops (WO.p (by simp; rfl) (WO.nil (W.ret ?_))))
    refine ⟨_, by simp [resOf]; rfl, ?_⟩
    have : l = m := List.ext_getElem? fun j => by
      by_cases hj : j < i
      · exact heq j hj
      · rw [List.getElem?_eq_none (by omega), List.getElem?_eq_none (by omega)]
    simp [resV, this]
  have e1 := List.getElem?_eq_getElem hlt
  have e2 := List.getElem?_eq_getElem (l := m) (show i < m.length by omega)
  obtain ⟨a1, rfl, ld1⟩ := h1 i _ e1
  obtain ⟨a2, rfl, ld2⟩ := h2 i _ e2
  refine W.seq (W.cond (z := true) (by simp; omega) (W.skip ?_))
  refine W.seq (W.block (W.seq (W.ops ?_)))
  refine WO.p (by simp [g13]; rfl) ?_
  refine WO.p (by simp; rfl) ?_
  refine WO.nil ?_
  refine W.seq (W.drawn ?_)
  refine WD.p (by simp [g0]; rfl) ?_
  refine WD.p (by simp; rfl) ?_
  refine WD.p (idx (a := a1) (n := l.length) (c := c1) (j := i) (by simp) (by simp) hlt) ?_
  refine WD.r (v := .int .i64 l[i]) (by simp [ld1]) (by simp [ld1]) ?_
  refine WD.p (by simp [g1]; rfl) ?_
  refine WD.p (by simp; rfl) ?_
  refine WD.p (idx (a := a2) (n := m.length) (c := c2) (j := i) (by simp) (by simp) (by omega)) ?_
  refine WD.r (v := .int .i64 m[i]) (by simp [ld2]) (by simp [ld2]) ?_
  refine WD.p (by simp; rfl) ?_
  refine WD.nil ?_
  by_cases he : l[i] = m[i]
  rotate_left
  · refine W.cond (z := true) (by simp [he]) ?_
    refine W.seq (W.ops (WO.p (by simp; rfl) (WO.nil (W.ret ?_))))
    simp [blockQ]
    refine ⟨_, by simp [resOf]; rfl, ?_⟩
    have : l ≠ m := fun h => he (by simp [h])
    simp [resV, this]
  refine W.cond (z := false) (by simp [he]) (W.skip ?_)
  simp [blockQ]
  refine W.ops ?_
  refine WO.p (v := .int .i64 ((i + 1 : Nat) : Int)) (by simp [g13]; exact wr_small (by omega) (by omega)) ?_
  refine WO.p (by simp; rfl) ?_
  refine WO.nil ?_
  refine ⟨_, ?_, i + 1, rfl, hlt, rfl, by simp [g0], by simp [g1], by simp [g12], by simp, fun j hj => ?_⟩
  · omega
  · by_cases hji : j < i
    · exact heq j hji
    · have : j = i := by omega
      subst this
      rw [e1, e2, he]
end Go.Proofs.AM.I28

namespace Go.Proofs.AM.I28
open Go Go.Proofs.AM Go.Proofs
set_option linter.unusedSimpArgs false
set_option linter.unusedVariables false

theorem func5_ok : ∃ fn, Try.prog.funcs[5]? = some fn ∧ fn.body.isSome = true ∧ (fn.name == "runtime.NumGoroutine") = false :=
  ⟨_, Try.func5, by kernel_rfl, by kernel_rfl⟩

theorem ft_sound {M : Old} {base : Nat} : TblS Try.prog M base FT where
  code := fun g fn h => by
    unfold FT at h
    cases hb : Nat.beq g 5 with
    | true => rw [hb] at h; cases h
    | false =>
      rw [hb] at h
      exact (tblS_of_all (M := M) (base := base) tblAll).code g fn h
  mono := fun g s h => by
    unfold FT at h
    cases hb : Nat.beq g 5 with
    | true =>
      rw [hb] at h
      simp only [cond_true, Option.some.injEq, Ent.orc.injEq] at h
      subst h
      intro args A v A' hs
      cases args with
      | nil => simp only [orc5, Option.some.injEq, Prod.mk.injEq] at hs; obtain ⟨_, rfl⟩ := hs; exact Grow.refl _
      | cons => cases hs
    | false =>
      rw [hb] at h
      exact absurd h (fun h => by
        obtain ⟨fn', h1, h2⟩ := T.All.get tblAll g _ h
        cases h1)
  orc := fun g s h args A v A' μ w cargs hs hS hf hr => by
    unfold FT at h
    cases hb : Nat.beq g 5 with
    | true =>
      rw [hb] at h
      simp only [cond_true, Option.some.injEq, Ent.orc.injEq] at h
      subst h
      have hg : g = 5 := Nat.eq_of_beq_eq_true hb
      subst hg
      cases args with
      | nil =>
        simp only [orc5, Option.some.injEq, Prod.mk.injEq] at hs
        obtain ⟨rfl, rfl⟩ := hs
        have hc : cargs = #[] := by have := hr.of_nil; simpa using this
        subst hc
        refine ⟨func5_ok, (closed_calls mix tblAll (show _ = true from awakeK) w).mono fun e w' => ?_⟩
        rintro ⟨rfl, hg⟩
        exact ⟨μ, _, rfl, .bool true, step_of_grown hS hg⟩
      | cons => cases hs
    | false =>
      rw [hb] at h
      exact absurd h (fun h => by
        obtain ⟨fn', h1, h2⟩ := T.All.get tblAll g _ h
        cases h1)
end Go.Proofs.AM.I28

namespace Go.Proofs.AM.I28
open Go Go.Proofs.AM

/-- A heap that has only grown. -/
def Ext (A B : AH) : Prop := A.next ≤ B.next ∧ ∀ i, i < A.next → B.blk i = A.blk i
theorem Ext.refl (A : AH) : Ext A A := ⟨Nat.le_refl _, fun _ _ => rfl⟩
theorem Ext.trans {A B C : AH} (h : Ext A B) (k : Ext B C) : Ext A C := ⟨Nat.le_trans h.1 k.1, fun i hi => by rw [k.2 i (Nat.lt_of_lt_of_le hi h.1), h.2 i hi]⟩

def ents (p : List Int) : List (Value × Value) := p.map fun x => (.int .i64 x, .bool true)
theorem findEnt_ints (x : Int) : ∀ p : List Int, findEnt (keyEq .int) (.int .i64 x) (ents p) = some (if x ∈ p then some (.bool true) else none)
  | [] => rfl
  | y :: p => by
    simp only [ents, List.map_cons, findEnt, keyEq, keyEqI, decide_true, cond_true, eqI_eq]
    by_cases h : x = y
    · subst h; simp
    · have h1 : (x == y) = false := by simpa using h
      rw [h1]
      simp only
      have := findEnt_ints x p
      simp only [ents, keyEq] at this
      rw [this]
      simp [h]
theorem putEnt_ints (x : Int) : ∀ p : List Int, x ∉ p → putEnt (keyEq .int) (.int .i64 x) (.bool true) (ents p) = some (ents (p ++ [x]))
  | [], _ => rfl
  | y :: p, hn => by
    simp only [List.mem_cons, not_or] at hn
    simp only [ents, List.map_cons, putEnt, keyEq, keyEqI, decide_true, cond_true, eqI_eq, List.cons_append]
    have h1 : (x == y) = false := by simpa using hn.1
    rw [h1]
    simp only
    have := putEnt_ints x p hn.2
    simp only [ents, keyEq] at this
    rw [this]

def okList : List Int → List Int → Bool
  | _, [] => true
  | seen, x :: l => !(decide (x < 0) || decide (4096 ≤ x) || decide (x ∈ seen)) && okList (seen ++ [x]) l
def okOrd (l : List Int) : Bool := okList [] l && decide (2 * (l.length : Int) - 1 ≤ 65536)

attribute [local simp] pureR pureR_mov pureR_bin pureR_lenSlice pureR_indexAddr pureR_pick readR readR_load1 readR_lookup Fr.ev evTmp putD T.get_set binI sameIn sameO sameV sameA sameF ltI_eq eqI_eq thenQ T.setL newR newR_makeMap wants isB isKey

theorem validOrder {M : Old} {A : AH} {v : Value} {l : List Int} (hv : ∀ B, Ext A B → Ints M B v l) : WC M FT 19 [v] A fun r A' => r = .bool (okOrd l) ∧ Ext A A' := by
  obtain ⟨b1, c1, rfl, hb1, _⟩ := hv A (.refl A)
  refine WC.enter (fn := ir19) rfl rfl ?_
  unfold ir19
  refine W.seq (W.ops (WO.p (by simp; rfl) (WO.nil ?_)))
  refine W.seq (W.ops (WO.n (by simp; exact ⟨rfl, rfl⟩) ?_))
  refine WO.p (by simp; rfl) (WO.nil ?_)
  refine W.seq (W.seq (W.ops ?_))
  refine WO.p (by simp; rfl) ?_
  refine WO.p (by simp; rfl) ?_
  refine WO.p (by simp; rfl) ?_
  refine WO.nil ?_
  refine W.block ?_
  refine W.rounds (fun k fr B => ∃ i : Nat, k = l.length - i ∧ i ≤ l.length ∧ Ext A B ∧ A.next < B.next ∧ B.blk A.next = .map (ents (l.take i)) ∧ okList [] l = okList (l.take i) (l.drop i) ∧ fr.get 0 = some (.slice b1 l.length c1) ∧ fr.get 3 = some (.map (some (2 * A.next))) ∧ fr.get 7 = some (.slice b1 l.length c1) ∧ fr.get 8 = some (.int .i64 l.length) ∧ fr.get 9 = some (.int .i64 i)) ?_ l.length _ _
    ⟨0, by simp, by simp, ⟨by simp [AH.push], fun i hi => by rw [blk_push, if_neg (by omega)]⟩, by simp [AH.push], by rw [blk_push, if_pos rfl]; rfl, by simp, by simp, by simp, by simp, by simp, by simp⟩
  rintro k fr B ⟨i, rfl, hi, hext, hnx, hmap, hok, g0, g3, g7, g8, g9⟩
  refine W.seq (W.ops (WO.p (by simp [g8, g9]; rfl) (WO.nil ?_)))
  by_cases hlt : i < l.length
  rotate_left
  · refine W.seq (W.cond (z := false) (by simp; omega) (W.exit ?_))
    simp [blockQ]
    refine W.seq (W.ops ?_)
    refine WO.p (by simp [g0]; rfl) ?_
    refine WO.p (by simp; rfl) ?_
    refine WO.p (v := .int .i64 (2 * l.length)) (by simp; exact wr_small (by omega) (by omega)) ?_
    refine WO.p (v := .int .i64 (2 * l.length - 1)) (by simp; exact wr_small (by omega) (by omega)) ?_
    refine WO.p (by simp; rfl) ?_
    refine WO.p (by simp; rfl) (WO.nil (W.ret ?_))
    refine ⟨_, by simp [resOf]; rfl, ?_, hext⟩
    have hd : l.drop i = [] := by simp; omega
    simp only [resV, okOrd, hok, hd, okList, Bool.true_and]
    congr 1
    by_cases h : 2 * (l.length : Int) - 1 ≤ 65536
    · rw [decide_eq_true h, decide_eq_false (by omega)]; rfl
    · rw [decide_eq_false h, decide_eq_true (by omega)]; rfl
  have e1 := List.getElem?_eq_getElem hlt
  obtain ⟨_, _, he, _, h1⟩ := hv B hext
  simp only [Value.slice.injEq] at he
  obtain ⟨rfl, _, rfl⟩ := he
  obtain ⟨a1, rfl, ld1⟩ := h1 i _ e1
  refine W.seq (W.cond (z := true) (by simp; omega) (W.skip ?_))
  refine W.seq (W.block (W.seq (W.ops ?_)))
  refine WO.p (idx (a := a1) (n := l.length) (c := c1) (j := i) (by simp [g7]) (by simp [g9]) hlt) ?_
  refine WO.r (v := .int .i64 l[i]) (by simp [ld1]) ?_
  refine WO.p (by simp; rfl) (WO.nil ?_)
  refine W.seq (W.seq (W.ops ?_))
  refine WO.p (by simp; rfl) ?_
  refine WO.p (by simp; rfl) ?_
  refine WO.p (by simp; rfl) ?_
  have hdrop : l.drop i = l[i] :: l.drop (i + 1) := by rw [List.drop_eq_getElem_cons hlt]
  have htake : l.take (i + 1) = l.take i ++ [l[i]] := by rw [List.take_succ_eq_append_getElem hlt]
  have hok' : okList [] l = (!(decide (l[i] < 0) || decide (4096 ≤ l[i]) || decide (l[i] ∈ l.take i)) && okList (l.take (i + 1)) (l.drop (i + 1))) := by
    rw [hok, hdrop, htake]; rfl
  -- the test, and what follows if it fails
  have bad : (l[i] < 0 ∨ 4096 ≤ l[i] ∨ l[i] ∈ l.take i) → okOrd l = false := by
    intro h
    simp only [okOrd, hok']
    rcases h with h | h | h <;> simp [h]
  refine (?_ : ∀ (t : Bool), t = (decide (l[i] < 0) || decide (4096 ≤ l[i]) || decide (l[i] ∈ l.take i)) → _) _ rfl
  intro t ht
  by_cases c1' : l[i] < 0
  · refine WO.off (by simp [c1']) ?_
    refine WO.off (by simp [c1']) ?_
    refine WO.p (v := .bool true) (by simp [c1']) ?_
    refine WO.p (by simp; rfl) ?_
    refine WO.off (by simp) ?_
    refine WO.off (by simp) ?_
    refine WO.off (by simp) ?_
    refine WO.p (v := .bool true) (by simp) (WO.nil ?_)
    refine W.cond (z := true) (by simp) ?_
    refine W.seq (W.ops (WO.p (by simp; rfl) (WO.nil (W.ret ?_))))
    simp [blockQ]
    exact ⟨_, by simp [resOf]; rfl, by simp [resV, bad (.inl c1')], hext⟩
  refine WO.cons (v := .int .i64 l[i]) (A1 := B) (by simp [c1']) (fun cf => by simp [opR, opP, andP]) ?_
  refine WO.cons (v := .bool (decide (4096 ≤ l[i]))) (A1 := B) (by simp [c1']) (fun cf => by simp [opR, opP, andP]; rw [Bool.eq_iff_iff]; simp) ?_
  refine WO.p (v := .bool (decide (4096 ≤ l[i]))) (by simp [c1']) ?_
  refine WO.p (by simp; rfl) ?_
  by_cases c2' : 4096 ≤ l[i]
  · refine WO.off (by simp [c2']) ?_
    refine WO.off (by simp [c2']) ?_
    refine WO.off (by simp [c2']) ?_
    refine WO.p (v := .bool true) (by simp [c2']) (WO.nil ?_)
    refine W.cond (z := true) (by simp) ?_
    refine W.seq (W.ops (WO.p (by simp; rfl) (WO.nil (W.ret ?_))))
    simp [blockQ]
    exact ⟨_, by simp [resOf]; rfl, by simp [resV, bad (.inr (.inl c2'))], hext⟩
  refine WO.cons (v := .map (some (2 * A.next))) (A1 := B) (by simp [c2']) (fun cf => by simp [opR, opP, andP, g3]) ?_
  refine WO.cons (v := .int .i64 l[i]) (A1 := B) (by simp [c2']) (fun cf => by simp [opR, opP, andP]) ?_
  refine WO.cons (v := .bool (decide (l[i] ∈ l.take i))) (A1 := B) (by simp [c2']) (fun cf => by simp [opR, opRd, andP, hmap, findEnt_ints]; by_cases h : l[i] ∈ l.take i <;> simp [h]) ?_
  refine WO.p (v := .bool (decide (l[i] ∈ l.take i))) (by simp [c2']) (WO.nil ?_)
  by_cases c3' : l[i] ∈ l.take i
  · refine W.cond (z := true) (by simp [c3']) ?_
    refine W.seq (W.ops (WO.p (by simp; rfl) (WO.nil (W.ret ?_))))
    simp [blockQ]
    exact ⟨_, by simp [resOf]; rfl, by simp [resV, bad (.inr (.inr c3'))], hext⟩
  refine W.cond (z := false) (by simp [c3']) (W.skip ?_)
  refine W.ops ?_
  refine WO.p (by simp [g3]; rfl) ?_
  refine WO.p (by simp; rfl) ?_
  refine WO.e (v := undef) (A1 := B.put A.next (.map (ents (l.take (i + 1))))) ?_ (WO.nil ?_)
  · simp [effR, effR_mapUpdate, hmap]
    rw [putEnt_ints _ _ c3', ← htake]
  simp only [blockQ]
  refine W.ops ?_
  refine WO.p (v := .int .i64 ((i + 1 : Nat) : Int)) (by simp [g9]; exact wr_small (by omega) (by omega)) ?_
  refine WO.p (by simp; rfl) (WO.nil ?_)
  refine ⟨_, ?_, i + 1, rfl, hlt, ⟨hext.1, fun j hj => by rw [blk_put, if_neg (by omega)]; exact hext.2 j hj⟩, hnx, by rw [blk_put, if_pos rfl], ?_, by simp [g0], by simp [g3], by simp [g7], by simp [g8], by simp⟩
  · omega
  · rw [hok']; simp [c1', c2', c3']
end Go.Proofs.AM.I28

namespace Go.Proofs.AM.I28
open Go Go.Proofs.AM
attribute [local simp] pureR pureR_mov pureR_bin pureR_lenSlice pureR_indexAddr pureR_pick readR readR_load1 readR_lookup Fr.ev evTmp putD T.get_set binI sameIn sameO sameV sameA sameF ltI_eq eqI_eq thenQ T.setL newR newR_makeMap wants isB isKey

theorem orderOK {M : Old} {A : AH} {v : Value} {l : List Int} (hv : ∀ B, Ext A B → Ints M B v l) : WC M FT 21 [v] A fun r A' => r = .bool (okOrd l) ∧ Ext A A' := by
  obtain ⟨b1, c1, rfl, hb1, _⟩ := hv A (.refl A)
  refine WC.enter (fn := ir21) rfl rfl ?_
  unfold ir21
  refine W.seq (W.ops (WO.p (by simp; rfl) (WO.nil ?_)))
  refine W.seq (W.seq (W.ops ?_))
  refine WO.p (by simp; rfl) ?_
  refine WO.p (by simp; rfl) ?_
  refine WO.p (by simp; rfl) (WO.nil ?_)
  by_cases hbig : 32768 < l.length
  · refine W.cond (z := true) (by simp; omega) ?_
    refine W.seq (W.ops (WO.p (by simp; rfl) (WO.nil (W.ret ?_))))
    refine ⟨_, by simp [resOf]; rfl, ?_, .refl A⟩
    have : okOrd l = false := by
      simp only [okOrd]
      rw [decide_eq_false (by omega), Bool.and_false]
    simp [resV, this]
  refine W.cond (z := false) (by simp; omega) (W.skip ?_)
  refine W.seq (W.ops (WO.n (by simp; exact ⟨rfl, rfl⟩) ?_))
  refine WO.p (by simp; rfl) (WO.nil ?_)
  refine W.seq (W.seq (W.ops ?_))
  refine WO.p (by simp; rfl) ?_
  refine WO.p (by simp; rfl) ?_
  refine WO.p (by simp; rfl) ?_
  refine WO.nil ?_
  refine W.block ?_
  refine W.rounds (fun k fr B => ∃ i : Nat, k = l.length - i ∧ i ≤ l.length ∧ Ext A B ∧ A.next < B.next ∧ B.blk A.next = .map (ents (l.take i)) ∧ okList [] l = okList (l.take i) (l.drop i) ∧ fr.get 0 = some (.slice b1 l.length c1) ∧ fr.get 3 = some (.map (some (2 * A.next))) ∧ fr.get 10 = some (.slice b1 l.length c1) ∧ fr.get 11 = some (.int .i64 l.length) ∧ fr.get 12 = some (.int .i64 i)) ?_ l.length _ _
    ⟨0, by simp, by simp, ⟨by simp [AH.push], fun i hi => by rw [blk_push, if_neg (by omega)]⟩, by simp [AH.push], by rw [blk_push, if_pos rfl]; rfl, by simp, by simp, by simp, by simp, by simp, by simp⟩
  rintro k fr B ⟨i, rfl, hi, hext, hnx, hmap, hok, g0, g3, g7, g8, g9⟩
  refine W.seq (W.ops (WO.p (by simp [g8, g9]; rfl) (WO.nil ?_)))
  by_cases hlt : i < l.length
  rotate_left
  · refine W.seq (W.cond (z := false) (by simp; omega) (W.exit ?_))
    simp [blockQ]
    refine W.seq (W.ops ?_)
    refine WO.p (by simp; rfl) (WO.nil (W.ret ?_))
    refine ⟨_, by simp [resOf]; rfl, ?_, hext⟩
    have hd : l.drop i = [] := by simp; omega
    simp only [resV, okOrd, hok, hd, okList, Bool.true_and]
    rw [decide_eq_true (by omega)]
  have e1 := List.getElem?_eq_getElem hlt
  obtain ⟨_, _, he, _, h1⟩ := hv B hext
  simp only [Value.slice.injEq] at he
  obtain ⟨rfl, _, rfl⟩ := he
  obtain ⟨a1, rfl, ld1⟩ := h1 i _ e1
  refine W.seq (W.cond (z := true) (by simp; omega) (W.skip ?_))
  refine W.seq (W.block (W.seq (W.ops ?_)))
  refine WO.p (idx (a := a1) (n := l.length) (c := c1) (j := i) (by simp [g7]) (by simp [g9]) hlt) ?_
  refine WO.r (v := .int .i64 l[i]) (by simp [ld1]) ?_
  refine WO.p (by simp; rfl) (WO.nil ?_)
  refine W.seq (W.seq (W.ops ?_))
  refine WO.p (by simp; rfl) ?_
  refine WO.p (by simp; rfl) ?_
  refine WO.p (by simp; rfl) ?_
  have hdrop : l.drop i = l[i] :: l.drop (i + 1) := by rw [List.drop_eq_getElem_cons hlt]
  have htake : l.take (i + 1) = l.take i ++ [l[i]] := by rw [List.take_succ_eq_append_getElem hlt]
  have hok' : okList [] l = (!(decide (l[i] < 0) || decide (4096 ≤ l[i]) || decide (l[i] ∈ l.take i)) && okList (l.take (i + 1)) (l.drop (i + 1))) := by
    rw [hok, hdrop, htake]; rfl
  -- the test, and what follows if it fails
  have bad : (l[i] < 0 ∨ 4096 ≤ l[i] ∨ l[i] ∈ l.take i) → okOrd l = false := by
    intro h
    simp only [okOrd, hok']
    rcases h with h | h | h <;> simp [h]
  refine (?_ : ∀ (t : Bool), t = (decide (l[i] < 0) || decide (4096 ≤ l[i]) || decide (l[i] ∈ l.take i)) → _) _ rfl
  intro t ht
  by_cases c1' : l[i] < 0
  · refine WO.off (by simp [c1']) ?_
    refine WO.off (by simp [c1']) ?_
    refine WO.p (v := .bool true) (by simp [c1']) ?_
    refine WO.p (by simp; rfl) ?_
    refine WO.off (by simp) ?_
    refine WO.off (by simp) ?_
    refine WO.off (by simp) ?_
    refine WO.p (v := .bool true) (by simp) (WO.nil ?_)
    refine W.cond (z := true) (by simp) ?_
    refine W.seq (W.ops (WO.p (by simp; rfl) (WO.nil (W.ret ?_))))
    simp [blockQ]
    exact ⟨_, by simp [resOf]; rfl, by simp [resV, bad (.inl c1')], hext⟩
  refine WO.cons (v := .int .i64 l[i]) (A1 := B) (by simp [c1']) (fun cf => by simp [opR, opP, andP]) ?_
  refine WO.cons (v := .bool (decide (4096 ≤ l[i]))) (A1 := B) (by simp [c1']) (fun cf => by simp [opR, opP, andP]; rw [Bool.eq_iff_iff]; simp) ?_
  refine WO.p (v := .bool (decide (4096 ≤ l[i]))) (by simp [c1']) ?_
  refine WO.p (by simp; rfl) ?_
  by_cases c2' : 4096 ≤ l[i]
  · refine WO.off (by simp [c2']) ?_
    refine WO.off (by simp [c2']) ?_
    refine WO.off (by simp [c2']) ?_
    refine WO.p (v := .bool true) (by simp [c2']) (WO.nil ?_)
    refine W.cond (z := true) (by simp) ?_
    refine W.seq (W.ops (WO.p (by simp; rfl) (WO.nil (W.ret ?_))))
    simp [blockQ]
    exact ⟨_, by simp [resOf]; rfl, by simp [resV, bad (.inr (.inl c2'))], hext⟩
  refine WO.cons (v := .map (some (2 * A.next))) (A1 := B) (by simp [c2']) (fun cf => by simp [opR, opP, andP, g3]) ?_
  refine WO.cons (v := .int .i64 l[i]) (A1 := B) (by simp [c2']) (fun cf => by simp [opR, opP, andP]) ?_
  refine WO.cons (v := .bool (decide (l[i] ∈ l.take i))) (A1 := B) (by simp [c2']) (fun cf => by simp [opR, opRd, andP, hmap, findEnt_ints]; by_cases h : l[i] ∈ l.take i <;> simp [h]) ?_
  refine WO.p (v := .bool (decide (l[i] ∈ l.take i))) (by simp [c2']) (WO.nil ?_)
  by_cases c3' : l[i] ∈ l.take i
  · refine W.cond (z := true) (by simp [c3']) ?_
    refine W.seq (W.ops (WO.p (by simp; rfl) (WO.nil (W.ret ?_))))
    simp [blockQ]
    exact ⟨_, by simp [resOf]; rfl, by simp [resV, bad (.inr (.inr c3'))], hext⟩
  refine W.cond (z := false) (by simp [c3']) (W.skip ?_)
  refine W.ops ?_
  refine WO.p (by simp [g3]; rfl) ?_
  refine WO.p (by simp; rfl) ?_
  refine WO.e (v := undef) (A1 := B.put A.next (.map (ents (l.take (i + 1))))) ?_ (WO.nil ?_)
  · simp [effR, effR_mapUpdate, hmap]
    rw [putEnt_ints _ _ c3', ← htake]
  simp only [blockQ]
  refine W.ops ?_
  refine WO.p (v := .int .i64 ((i + 1 : Nat) : Int)) (by simp [g9]; exact wr_small (by omega) (by omega)) ?_
  refine WO.p (by simp; rfl) (WO.nil ?_)
  refine ⟨_, ?_, i + 1, rfl, hlt, ⟨hext.1, fun j hj => by rw [blk_put, if_neg (by omega)]; exact hext.2 j hj⟩, hnx, by rw [blk_put, if_pos rfl], ?_, by simp [g0], by simp [g3], by simp [g7], by simp [g8], by simp⟩
  · omega
  · rw [hok']; simp [c1', c2', c3']
end Go.Proofs.AM.I28

namespace Go.Proofs.AM.I28
open Go Go.Proofs.AM

/-- A slice that append has made (or nil): n elements of s cells, the cells cs. 'own': its block, if there is one. -/
inductive Buf (A : AH) (s : Nat) (e : TypeId) : Value → Nat → List Value → Option Nat → Prop where
  | nil : Buf A s e (.slice none 0 0) 0 [] none
  | some (i n nn : Nat) (ov : T Value) (zs cs : List Value) (hi : i < A.next) (hb : A.blk i = .cells nn ov zs e (some s)) (hn : cs.length = n * s) (hpos : 0 < n)
      (hc : ∀ k v, cs[k]? = some v → cellAt nn ov zs k = some v) : Buf A s e (.slice (some ⟨2 * i, 0, none⟩) n UNK) n cs (some i)

theorem load_new {M : Old} {A : AH} {i o nn : Nat} {ov : T Value} {zs : List Value} {e : TypeId} {g : Option Nat} (hb : A.blk i = .cells nn ov zs e g) : A.load M ⟨2 * i, o, none⟩ = cellAt nn ov zs o := by
  unfold AH.load
  have h1 : (2 * i) % 2 = 0 := by omega
  have h2 : 2 * i / 2 = i := by omega
  simp only [h1, h2, hb]
  rfl
theorem loadN_of {M : Old} {A : AH} {b : Nat} : ∀ (cs : List Value) (o : Nat), (∀ k v, cs[k]? = some v → A.load M ⟨b, o + k, none⟩ = some v) → A.loadN M b o cs.length = some cs
  | [], o, _ => rfl
  | c :: cs, o, h => by
    simp only [List.length_cons, AH.loadN]
    have h0 := h 0 c rfl
    rw [Nat.add_zero] at h0
    rw [h0]
    simp only
    rw [loadN_of cs (o + 1) fun k v hk => by
      have := h (k + 1) v (by simpa using hk)
      rwa [show o + (k + 1) = o + 1 + k by omega] at this]
theorem cells_new {vs : List Value} {k : Nat} {v : Value} (h : vs[k]? = some v) (zs : List Value) : cellAt vs.length (T.setL .nil 0 vs) zs k = some v := by
  have hk : k < vs.length := (List.getElem?_eq_some_iff.1 h).1
  rw [cellAt_new _ _ _ hk, h]

/-- One more element (at least). -/
theorem append_buf {M : Old} {A : AH} {s : Nat} {e : TypeId} {x y : Value} {n m : Nat} {cs new : List Value} {own : Option Nat} (hx : Buf A s e x n cs own) (hy : srcCells M A s y = some (m + 1, new)) (hnew : new.length = (m + 1) * s) (hone : allOne cs = true) (hone' : allOne new = true) (hlim : n + (m + 1) ≤ LIM) :
    ∃ A', appendA M s e x y A = some (.slice (some ⟨2 * A.next, 0, none⟩) (n + (m + 1)) UNK, A') ∧ A'.next = A.next + 1 ∧ Buf A' s e (.slice (some ⟨2 * A.next, 0, none⟩) (n + (m + 1)) UNK) (n + (m + 1)) (cs ++ new) (some A.next) ∧
      ∀ j, j < A.next → own ≠ some j → A'.blk j = A.blk j := by
  have happ : allOne (cs ++ new) = true := by
    clear hnew hy hx hlim
    induction cs with
    | nil => exact hone'
    | cons c cs ih =>
      simp only [allOne] at hone
      simp only [List.cons_append, allOne]
      cases hc : oneV c with
      | false => rw [hc] at hone; cases hone
      | true => rw [hc, cond_true] at hone; rw [cond_true]; exact ih hone
  cases hx with
  | nil =>
    refine ⟨A.push (newCells new e (some s)), ?_, rfl, ?_, fun j hj _ => by rw [blk_push, if_neg (by omega)]⟩
    · unfold appendA
      rw [hy]
      simp only
      rw [ble_of hlim, cond_true, beqNe (by decide), cond_false, ble_not (by omega), cond_false, beqEq rfl, cond_true]
      simp only [List.nil_append]
      rw [hone']; rfl
    · refine .some A.next _ new.length (T.setL .nil 0 new) [] _ (by simp [AH.push]) (by rw [blk_push, if_pos rfl]; rfl) (by simp [hnew]) (by omega) fun k v hk => ?_
      simp only [List.nil_append] at hk
      exact cells_new hk []
  | some i n nn ov zs cs hi hb hn hpos hc =>
    refine ⟨(A.put i .dead).push (newCells (cs ++ new) e (some s)), ?_, rfl, ?_, fun j hj ho => ?_⟩
    · unfold appendA
      rw [hy]
      simp only
      rw [ble_of hlim, cond_true, beqEq rfl, cond_true]
      have h1 : (2 * i) % 2 = 0 := by omega
      have h2 : 2 * i / 2 = i := by omega
      simp only [h1, h2, hb]
      rw [← hn, loadN_of cs 0 fun k v hk => by rw [Nat.zero_add, load_new hb]; exact hc k v hk]
      simp [hone']
    · refine .some A.next _ (cs ++ new).length (T.setL .nil 0 (cs ++ new)) [] _ (by simp [AH.push, AH.put]) ?_ (by simp [hnew, hn, Nat.add_mul]) (by omega) fun k v hk => cells_new hk []
      rw [blk_push]
      have : (A.put i .dead).next = A.next := rfl
      rw [this, if_pos rfl]; rfl
    · rw [blk_push]
      have : (A.put i .dead).next = A.next := rfl
      rw [this, if_neg (by omega), blk_put, if_neg (fun e => ho (by rw [e]))]
end Go.Proofs.AM.I28

namespace Go.Proofs.AM.I28
open Go Go.Proofs.AM

theorem Buf.ext {A B : AH} {s : Nat} {e : TypeId} {v : Value} {n : Nat} {cs : List Value} {own : Option Nat} (h : Buf A s e v n cs own) (hx : Ext A B) : Buf B s e v n cs own := by
  cases h with
  | nil => exact .nil
  | some i n nn ov zs cs hi hb hn hpos hc => exact .some i n nn ov zs cs (Nat.lt_of_lt_of_le hi hx.1) (by rw [hx.2 i hi]; exact hb) hn hpos hc
theorem ext_push (A : AH) (b : Blk) : Ext A (A.push b) := ⟨by simp [AH.push], fun i hi => by rw [blk_push, if_neg (by omega)]⟩

def nd (b l r : Int) : List Value := [.int .i64 b, .int .i64 l, .int .i64 r]
def ints : List Value → Bool
  | [] => true
  | .int _ _ :: l => ints l
  | _ => false
theorem ints_one : ∀ {l : List Value}, ints l = true → allOne l = true
  | [], _ => rfl
  | .int _ _ :: l, h => by simp only [ints] at h; simp only [allOne, oneV, cond_true]; exact ints_one h
theorem ints_append : ∀ {l m : List Value}, ints l = true → ints m = true → ints (l ++ m) = true
  | [], m, _, h => h
  | .int _ _ :: l, m, h, h' => by simp only [ints] at h; simp only [List.cons_append, ints]; exact ints_append h h'

/-- A node built, appended. -/
theorem append_node {M : Old} {A : AH} {x : Value} {n : Nat} {cs : List Value} {own : Option Nat} {b l r : Int} (hx : Buf A 3 34 x n cs own) (hi : ints cs = true) (hn : n < 2 ^ 39) :
    ∃ v A', appendA M 3 34 x (.slice (some ⟨2 * A.next, 0, none⟩) 1 1) (A.push (newCells (nd b l r) 34 none)) = some (v, A') ∧ A.next < A'.next ∧ Buf A' 3 34 v (n + 1) (cs ++ nd b l r) (some (A.next + 1)) ∧ ∀ j, j < A.next → own ≠ some j → A'.blk j = A.blk j := by
  have hb : (A.push (newCells (nd b l r) 34 none)).blk A.next = newCells (nd b l r) 34 none := by rw [blk_push, if_pos rfl]
  have hsrc : srcCells M (A.push (newCells (nd b l r) 34 none)) 3 (.slice (some ⟨2 * A.next, 0, none⟩) 1 1) = some (1, nd b l r) := by
    simp only [srcCells, AH.loadC]
    have := loadN_of (M := M) (A := A.push (newCells (nd b l r) 34 none)) (b := 2 * A.next) (nd b l r) 0 fun k v hk => by
      rw [Nat.zero_add, load_new hb]; exact cells_new hk []
    simp only [nd, List.length_cons, List.length_nil] at this ⊢
    rw [this]
  obtain ⟨A', h1, h2, h3, h4⟩ := append_buf (M := M) (hx.ext (ext_push A (newCells (nd b l r) 34 none))) (m := 0) hsrc rfl (ints_one hi) rfl (by unfold LIM; omega)
  have hnx : (A.push (newCells (nd b l r) 34 none)).next = A.next + 1 := rfl
  refine ⟨_, A', h1, by omega, by rw [hnx] at h3; exact h3, fun j hj ho => ?_⟩
  rw [h4 j (by omega) ho, blk_push, if_neg (by omega)]

def leafs : List Int → List Value
  | [] => []
  | b :: l => nd b (-1) (-1) ++ leafs l
theorem leafs_append : ∀ l m, leafs (l ++ m) = leafs l ++ leafs m
  | [], m => rfl
  | b :: l, m => by simp only [List.cons_append, leafs, leafs_append l m, List.append_assoc]
theorem leafs_ints : ∀ l, ints (leafs l) = true
  | [] => rfl
  | b :: l => leafs_ints l
/-- The inner nodes of the right-linear vtree: the first k of them. -/
def inner (n : Nat) : Nat → List Value
  | 0 => []
  | k + 1 => inner n k ++ nd 0 ((n : Int) - 2 - k) ((n : Int) + k - 1)
theorem inner_ints (n : Nat) : ∀ k, ints (inner n k) = true
  | 0 => rfl
  | k + 1 => ints_append (inner_ints n k) rfl
def rl (l : List Int) : List Value := leafs l ++ inner l.length (l.length - 1)

attribute [local simp] pureR pureR_mov pureR_bin pureR_lenSlice pureR_indexAddr pureR_pick pureR_not pureR_build readR readR_load1 readR_lookup Fr.ev evTmp putD T.get_set binI sameIn sameO sameV sameA sameF ltI_eq eqI_eq thenQ T.setL newR newR_alloc newR_buildSlice wants isB isKey callR fillA rep effR effR_append effR_store

end Go.Proofs.AM.I28

namespace Go.Proofs.AM.I28
open Go Go.Proofs.AM
set_option linter.unusedVariables false

theorem store_new {B : AH} {i n o : Nat} {ov : T Value} {zs vs : List Value} {e : TypeId} {g : Option Nat} (hb : B.blk i = .cells n ov zs e g) (hn : o + vs.length ≤ n) (ho : allOne vs = true) :
    B.store ⟨2 * i, o, none⟩ vs = some (B.put i (.cells n (ov.setL o vs) zs e g)) := by
  unfold AH.store
  have h1 : (2 * i) % 2 = 0 := by omega
  have h2 : 2 * i / 2 = i := by omega
  simp only [h1, h2, hb]
  rw [ble_of hn, ho]; rfl
theorem res_cell {M : Old} {B : AH} {i : Nat} {ov : T Value} {x : Value} {zs : List Value} {e : TypeId} {g : Option Nat} : (B.put i (.cells 1 (ov.set 0 x) zs e g)).loadC M ⟨2 * i, 0, none⟩ 1 = some [x] := by
  have hb : (B.put i (.cells 1 (ov.set 0 x) zs e g)).blk i = .cells 1 (ov.set 0 x) zs e g := by rw [blk_put, if_pos rfl]
  simp only [AH.loadC, AH.loadN]
  rw [load_new hb]
  have : cellAt 1 (ov.set 0 x) zs 0 = some x := by
    unfold cellAt
    rw [T.get_set, if_pos rfl]; rfl
  rw [this]

attribute [local simp] pureR pureR_mov pureR_bin pureR_lenSlice pureR_indexAddr pureR_pick pureR_not pureR_build readR readR_load1 readR_lookup Fr.ev evTmp putD T.get_set binI sameIn sameO sameV sameA sameF ltI_eq eqI_eq thenQ T.setL newR newR_alloc newR_buildSlice wants isB isKey callR fillA rep effR effR_append effR_store

theorem Buf.slice {A : AH} {s : Nat} {e : TypeId} {v : Value} {n : Nat} {cs : List Value} {own : Option Nat} (h : Buf A s e v n cs own) : ∃ base cap, v = .slice base n cap := by
  cases h with
  | nil => exact ⟨_, _, rfl⟩
  | some => exact ⟨_, _, rfl⟩

theorem Buf.other {A : AH} {s : Nat} {e : TypeId} {v : Value} {n : Nat} {cs : List Value} {own : Option Nat} (h : Buf A s e v n cs own) {k : Nat} (hk : own ≠ Option.some k) {b : Blk} : Buf (A.put k b) s e v n cs own := by
  cases h with
  | nil => exact .nil
  | some i n nn ov zs cs hi hb hn hpos hc => exact .some i n nn ov zs cs hi (by rw [blk_put, if_neg (fun e => hk (by rw [e]))]; exact hb) hn hpos hc

/-- What the constructions return. -/
def Made (A A' : AH) (l : List Int) (cs : List Value) (n : Nat) (r : Value) : Prop :=
  Ext A A' ∧ ((okOrd l = false ∧ r = .tuple #[.agg #[.slice none 0 0], .int .i64 1]) ∨
    (okOrd l = true ∧ ∃ v own, r = .tuple #[.agg #[v], .int .i64 0] ∧ Buf A' 3 34 v n cs own ∧ ∀ j, own = some j → A.next ≤ j))

theorem rightLinear {M : Old} {A : AH} {v : Value} {l : List Int} (hl : l.length ≤ 300) (hv : ∀ B, Ext A B → Ints M B v l) : WC M FT 6 [v] A fun r A' => Made A A' l (rl l) (2 * l.length - 1) r := by
  obtain ⟨b1, c1, rfl, hb1, _⟩ := hv A (.refl A)
  refine WC.enter (fn := ir6) rfl rfl ?_
  unfold ir6
  refine W.seq (W.ops (WO.n (by simp; exact ⟨rfl, rfl⟩) (WO.p (by simp; rfl) (WO.nil ?_))))
  refine W.seq (W.seq (W.ops ?_))
  refine WO.p (by simp; rfl) ?_
  refine WO.call (g := 19) (gs := [.slice b1 l.length c1]) (by simp) ((validOrder (l := l) fun B hB => hv B ((ext_push A _).trans hB)).mono ?_)
  rintro r B ⟨rfl, hB⟩
  refine WO.p (by simp; rfl) (WO.nil ?_)
  have hblk : B.blk A.next = .cells 1 .nil [.slice none 0 0] 26 none := by rw [hB.2 A.next (by simp [AH.push]), blk_push, if_pos rfl]
  have hAB : Ext A B := (ext_push A _).trans hB
  have hnB : A.next < B.next := Nat.lt_of_lt_of_le (by simp [AH.push]) hB.1
  cases hok : okOrd l with
  | false =>
    refine W.cond (z := true) (by simp) ?_
    refine W.seq (W.ops ?_)
    refine WO.p (by simp; rfl) ?_
    refine WO.e (v := undef) (A1 := B.put A.next (.cells 1 (T.nil.set 0 (.slice none 0 0)) [.slice none 0 0] 26 none)) ?_ ?_
    · simp only [effR, effR_store]
      simp [Value.cells]
      rw [store_new hblk (by simp) rfl]; rfl
    refine WO.p (by simp; rfl) (WO.nil (W.ret ?_))
    refine ⟨[.agg #[.slice none 0 0], .int .i64 1], ?_, ⟨hAB.1, fun j hj => by rw [blk_put, if_neg (by omega)]; exact hAB.2 j hj⟩, .inl ⟨hok, rfl⟩⟩
    simp only [resOf]
    simp
    rw [res_cell]
  | true =>
    refine W.cond (z := false) (by simp) (W.skip ?_)
    refine W.seq (W.ops (WO.p (by simp; rfl) (WO.nil ?_)))
    refine W.seq (W.seq (W.ops ?_))
    refine WO.p (by simp; rfl) ?_
    refine WO.p (by simp; rfl) ?_
    refine WO.p (by simp; rfl) (WO.nil ?_)
    refine W.block ?_
    refine W.rounds (fun k fr C => ∃ (i : Nat) (v : Value) (own : Option Nat), k = l.length - i ∧ i ≤ l.length ∧ Ext A C ∧ A.next < C.next ∧ C.blk A.next = .cells 1 .nil [.slice none 0 0] 26 none ∧ Buf C 3 34 v i (leafs (l.take i)) own ∧ (∀ j, own = some j → A.next < j) ∧
        fr.get 0 = some (.slice b1 l.length c1) ∧ fr.get 2 = some (.pointer (some ⟨2 * A.next, 0, none⟩)) ∧ fr.get 4 = some v ∧ fr.get 12 = some (.slice b1 l.length c1) ∧ fr.get 13 = some (.int .i64 l.length) ∧ fr.get 14 = some (.int .i64 i)) ?_ l.length _ _
      ⟨0, .slice none 0 0, none, by simp, by simp, hAB, hnB, hblk, .nil, by simp, by simp, by simp, by simp, by simp, by simp, by simp⟩
    rintro k fr C ⟨i, x, own, rfl, hi, hAC, hnC, hblkC, hbuf, hown, g0, g2, g4, g12, g13, g14⟩
    refine W.seq (W.ops (WO.p (by simp [g13, g14]; rfl) (WO.nil ?_)))
    by_cases hlt : i < l.length
    · have e1 := List.getElem?_eq_getElem hlt
      obtain ⟨_, _, he, _, h1⟩ := hv C hAC
      simp only [Value.slice.injEq] at he
      obtain ⟨rfl, _, rfl⟩ := he
      obtain ⟨a1, rfl, ld1⟩ := h1 i _ e1
      obtain ⟨y, D, d1, d2, d3, d4⟩ := append_node (M := M) (b := l[i]) (l := -1) (r := -1) hbuf (leafs_ints _) (by omega)
      refine W.seq (W.cond (z := true) (by simp; omega) (W.skip ?_))
      refine W.seq (W.block (W.seq (W.ops ?_)))
      refine WO.p (idx (a := a1) (n := l.length) (c := c1) (j := i) (by simp [g12]) (by simp [g14]) hlt) ?_
      refine WO.r (v := .int .i64 l[i]) (by simp [ld1]) ?_
      refine WO.p (by simp; rfl) (WO.nil ?_)
      refine W.ops ?_
      refine WO.p (by simp [g4]; rfl) ?_
      refine WO.p (by simp; rfl) ?_
      refine WO.p (v := .agg #[.int .i64 l[i], .int .i64 (-1), .int .i64 (-1)]) (by simp [Value.cells]; rfl) ?_
      refine WO.n (b := newCells (nd l[i] (-1) (-1)) 34 none) (mk := fun i => .slice (some ⟨2 * i, 0, none⟩) 1 1) (by simp [Value.cells]; rfl) ?_
      refine WO.e (v := y) (A1 := D) (by simp; exact d1) ?_
      refine WO.p (by simp; rfl) (WO.nil ?_)
      simp only [blockQ]
      refine W.ops ?_
      refine WO.p (v := .int .i64 ((i + 1 : Nat) : Int)) (by simp [g14]; exact wr_small (by omega) (by omega)) ?_
      refine WO.p (by simp; rfl) (WO.nil ?_)
      refine ⟨_, ?_, i + 1, y, some (C.next + 1), rfl, hlt, ⟨by have := hAC.1; omega, fun j hj => ?_⟩, by omega, ?_, ?_, ?_, by simp [g0], by simp [g2], by simp, by simp [g12], by simp [g13], by simp⟩
      · omega
      · rw [d4 j (by omega) (fun h => by have := hown j h; omega)]; exact hAC.2 j hj
      · rw [d4 _ hnC (fun h => by have := hown _ h; omega)]; exact hblkC
      · have : l.take (i + 1) = l.take i ++ [l[i]] := by rw [List.take_succ_eq_append_getElem hlt]
        rw [this, leafs_append]
        simpa [leafs] using d3
      · intro j hj; cases hj; omega
    · have hin : i = l.length := by omega
      subst hin
      rw [List.take_length] at hbuf
      refine W.seq (W.cond (z := false) (by simp) (W.exit ?_))
      simp only [blockQ, thenQ, if_true]
      refine W.seq (W.seq (W.ops ?_))
      refine WO.p (by simp [g0]; rfl) ?_
      refine WO.p (by simp; rfl) ?_
      refine WO.p (v := .int .i64 ((l.length : Int) - 2)) (by simp; exact wr_small (by omega) (by omega)) ?_
      refine WO.p (by simp; rfl) (WO.nil ?_)
      refine W.block ?_
      refine W.rounds (fun k fr D => ∃ (i : Nat) (v : Value) (own : Option Nat), k = l.length - 1 - i ∧ i ≤ l.length - 1 ∧ Ext A D ∧ A.next < D.next ∧ D.blk A.next = .cells 1 .nil [.slice none 0 0] 26 none ∧ Buf D 3 34 v (l.length + i) (leafs l ++ inner l.length i) own ∧ (∀ j, own = some j → A.next < j) ∧
          fr.get 2 = some (.pointer (some ⟨2 * A.next, 0, none⟩)) ∧ fr.get 4 = some v ∧ fr.get 7 = some (.int .i64 ((l.length : Int) - 2 - i))) ?_ (l.length - 1) _ _
        ⟨0, x, own, by simp, by simp, hAC, hnC, hblkC, by simpa [inner] using hbuf, hown, by simp [g2], by simp [g4], by simp⟩
      rintro k fr2 D ⟨i, y, own2, rfl, hi2, hAD, hnD, hblkD, hbuf2, hown2, f2, f4, f7⟩
      obtain ⟨yb, yc, hy⟩ := hbuf2.slice
      refine W.seq (W.seq (W.ops ?_))
      refine WO.p (by simp [f7]; rfl) ?_
      refine WO.p (by simp; rfl) (WO.nil ?_)
      by_cases hlt2 : i < l.length - 1
      · obtain ⟨z, E, d1, d2, d3, d4⟩ := append_node (M := M) (b := 0) (l := (l.length : Int) - 2 - i) (r := (l.length : Int) + i - 1) hbuf2 (ints_append (leafs_ints _) (inner_ints _ _)) (by omega)
        refine W.cond (z := true) (by simp; omega) (W.skip ?_)
        refine W.seq (W.block (W.ops ?_))
        refine WO.p (by simp [f4]; rfl) ?_
        refine WO.p (by simp [f7]; rfl) ?_
        refine WO.p (v := y) (by simp [f4]) ?_
        refine WO.p (v := .int .i64 ((l.length + i : Nat) : Int)) (by simp [hy]) ?_
        refine WO.p (v := .int .i64 ((l.length : Int) + i - 1)) (by simp; exact wr_small (by omega) (by omega)) ?_
        refine WO.p (v := .agg #[.int .i64 0, .int .i64 ((l.length : Int) - 2 - i), .int .i64 ((l.length : Int) + i - 1)]) (by simp [Value.cells]; rfl) ?_
        refine WO.n (b := newCells (nd 0 ((l.length : Int) - 2 - i) ((l.length : Int) + i - 1)) 34 none) (mk := fun i => .slice (some ⟨2 * i, 0, none⟩) 1 1) (by simp [Value.cells]; rfl) ?_
        refine WO.e (v := z) (A1 := E) (by simp; exact d1) ?_
        refine WO.p (by simp; rfl) (WO.nil ?_)
        simp only [blockQ]
        refine W.ops ?_
        refine WO.p (by simp [f7]; rfl) ?_
        refine WO.p (v := .int .i64 ((l.length : Int) - 2 - (i + 1 : Nat))) (by simp; rw [wr_small (by omega) (by omega)]; omega) ?_
        refine WO.p (by simp; rfl) (WO.nil ?_)
        refine ⟨_, ?_, i + 1, z, some (D.next + 1), rfl, by omega, ⟨by have := hAD.1; omega, fun j hj => ?_⟩, by omega, ?_, ?_, ?_, by simp [f2], by simp, by simp⟩
        · omega
        · rw [d4 j (by omega) (fun h => by have := hown2 j h; omega)]; exact hAD.2 j hj
        · rw [d4 _ hnD (fun h => by have := hown2 _ h; omega)]; exact hblkD
        · simp only [inner]
          rw [← List.append_assoc]; exact d3
        · intro j hj; cases hj; omega
      · have hin2 : i = l.length - 1 := by omega
        subst hin2
        refine W.cond (z := false) (by simp; omega) (W.exit ?_)
        simp only [blockQ, thenQ, if_true]
        refine W.seq (W.ops ?_)
        refine WO.p (by simp [f4]; rfl) ?_
        refine WO.p (v := .agg #[y]) (by simp [hy, Value.cells]; rfl) ?_
        refine WO.e (v := undef) (A1 := D.put A.next (.cells 1 (T.nil.set 0 y) [.slice none 0 0] 26 none)) ?_ ?_
        · simp only [effR, effR_store]
          simp [Value.cells, f2]
          rw [store_new hblkD (by simp) (by rw [hy]; rfl)]; rfl
        refine WO.p (by simp; rfl) (WO.nil (W.ret ?_))
        refine ⟨[.agg #[y], .int .i64 0], ?_, ⟨hAD.1, fun j hj => by rw [blk_put, if_neg (by omega)]; exact hAD.2 j hj⟩, .inr ⟨hok, y, own2, rfl, ?_, fun j hj => Nat.le_of_lt (hown2 j hj)⟩⟩
        · simp only [resOf]
          simp [f2]
          rw [res_cell]
        · have e : l.length + (l.length - 1) = 2 * l.length - 1 := by omega
          rw [e] at hbuf2
          exact hbuf2.other fun h => by have := hown2 A.next h; omega
end Go.Proofs.AM.I28

namespace Go.Proofs.AM.I28
open Go Go.Proofs.AM
set_option linter.unusedVariables false

/-- A variable of one cell. -/
def Holds1 (A : AH) (i : Nat) (v : Value) : Prop := ∃ ov, A.blk i = .cells 1 ov [.slice none 0 0] 26 none ∧ ov.get 0 = some v
theorem Holds1.load {M : Old} {A : AH} {i : Nat} {v : Value} (h : Holds1 A i v) : A.load M ⟨2 * i, 0, none⟩ = some v := by
  obtain ⟨ov, h1, h2⟩ := h
  rw [load_new h1]
  unfold cellAt
  rw [h2]; rfl
theorem Holds1.store {A : AH} {i : Nat} {v w : Value} (h : Holds1 A i v) (ho : oneV w = true) : ∃ A', A.store ⟨2 * i, 0, none⟩ [w] = some A' ∧ A'.next = A.next ∧ Holds1 A' i w ∧ ∀ j, j ≠ i → A'.blk j = A.blk j := by
  obtain ⟨ov, h1, h2⟩ := h
  refine ⟨_, store_new h1 (by simp) (by simp [allOne, ho]), rfl, ⟨_, by rw [blk_put, if_pos rfl], ?_⟩, fun j hj => by rw [blk_put, if_neg hj]⟩
  simp [T.setL, T.get_set]

theorem addA_zero (a : Addr) : addA a 0 = a := rfl
attribute [local simp] pureR_fieldAddr addA_zero pureR pureR_mov pureR_bin pureR_lenSlice pureR_indexAddr pureR_pick pureR_not pureR_build readR readR_load1 readR_lookup Fr.ev evTmp putD T.get_set binI sameIn sameO sameV sameA sameF ltI_eq eqI_eq thenQ T.setL newR newR_alloc newR_buildSlice wants isB isKey callR fillA rep effR effR_append effR_store

theorem refRightLinear {M : Old} {A : AH} {v : Value} {l : List Int} (hl : l.length ≤ 300) (hv : ∀ B, Ext A B → Ints M B v l) : WC M FT 8 [v] A fun r A' => Made A A' l (rl l) (2 * l.length - 1) r := by
  obtain ⟨b1, c1, rfl, hb1, _⟩ := hv A (.refl A)
  refine WC.enter (fn := ir8) rfl rfl ?_
  unfold ir8
  refine W.seq (W.ops (WO.n (by simp; exact ⟨rfl, rfl⟩) (WO.p (by simp; rfl) (WO.nil ?_))))
  refine W.seq (W.seq (W.ops ?_))
  refine WO.p (by simp; rfl) ?_
  refine WO.call (g := 21) (gs := [.slice b1 l.length c1]) (by simp) ((orderOK (l := l) fun B hB => hv B ((ext_push A _).trans hB)).mono ?_)
  rintro r B ⟨rfl, hB⟩
  refine WO.p (by simp; rfl) (WO.nil ?_)
  have hblk : B.blk A.next = .cells 1 .nil [.slice none 0 0] 26 none := by rw [hB.2 A.next (by simp [AH.push]), blk_push, if_pos rfl]
  have hAB : Ext A B := (ext_push A _).trans hB
  have hnB : A.next < B.next := Nat.lt_of_lt_of_le (by simp [AH.push]) hB.1
  cases hok : okOrd l with
  | false =>
    refine W.cond (z := true) (by simp) ?_
    refine W.seq (W.ops ?_)
    refine WO.p (by simp; rfl) ?_
    refine WO.e (v := undef) (A1 := B.put A.next (.cells 1 (T.nil.set 0 (.slice none 0 0)) [.slice none 0 0] 26 none)) ?_ ?_
    · simp only [effR, effR_store]
      simp [Value.cells]
      rw [store_new hblk (by simp) rfl]; rfl
    refine WO.p (by simp; rfl) (WO.nil (W.ret ?_))
    refine ⟨[.agg #[.slice none 0 0], .int .i64 1], ?_, ⟨hAB.1, fun j hj => by rw [blk_put, if_neg (by omega)]; exact hAB.2 j hj⟩, .inl ⟨hok, rfl⟩⟩
    simp only [resOf]
    simp
    rw [res_cell]
  | true =>
    refine W.cond (z := false) (by simp) (W.skip ?_)
    refine W.seq (W.ops ?_)
    refine WO.p (by simp; rfl) ?_
    refine WO.n (by simp; exact ⟨rfl, rfl⟩) ?_
    have hblk0 : (B.push (.cells 1 .nil [.slice none 0 0] 26 none)).blk B.next = .cells 1 .nil [.slice none 0 0] 26 none := by rw [blk_push, if_pos rfl]
    refine WO.e (v := undef) (A1 := (B.push (.cells 1 .nil [.slice none 0 0] 26 none)).put B.next (.cells 1 (T.nil.set 0 (.slice none 0 0)) [.slice none 0 0] 26 none)) ?_ (WO.nil ?_)
    · simp only [effR, effR_store]
      simp [Value.cells]
      rw [store_new hblk0 (by simp) rfl]; rfl
    refine W.seq (W.seq (W.ops ?_))
    refine WO.p (by simp; rfl) ?_
    refine WO.p (by simp; rfl) ?_
    refine WO.p (by simp; rfl) (WO.nil ?_)
    refine W.block ?_
    refine W.rounds (fun k fr C => ∃ (i : Nat) (v : Value) (own : Option Nat), k = l.length - i ∧ i ≤ l.length ∧ Ext A C ∧ A.next < C.next ∧ C.blk A.next = .cells 1 .nil [.slice none 0 0] 26 none ∧ Buf C 3 34 v i (leafs (l.take i)) own ∧ (∀ j, own = some j → B.next < j) ∧ B.next < C.next ∧ Holds1 C B.next v ∧
        fr.get 0 = some (.slice b1 l.length c1) ∧ fr.get 2 = some (.pointer (some ⟨2 * A.next, 0, none⟩)) ∧ fr.get 4 = some (.pointer (some ⟨2 * B.next, 0, none⟩)) ∧ fr.get 13 = some (.slice b1 l.length c1) ∧ fr.get 14 = some (.int .i64 l.length) ∧ fr.get 15 = some (.int .i64 i)) ?_ l.length _ _
      ⟨0, .slice none 0 0, none, by simp, by simp, ⟨by have := hAB.1; simp [AH.push, AH.put]; omega, fun j hj => by rw [blk_put, if_neg (by omega), blk_push, if_neg (by omega)]; exact hAB.2 j hj⟩, by simp [AH.push, AH.put]; omega, by rw [blk_put, if_neg (by omega), blk_push, if_neg (by omega)]; exact hblk, .nil, by simp, by simp [AH.push, AH.put], ⟨_, by rw [blk_put, if_pos rfl], rfl⟩, by simp, by simp, by simp, by simp, by simp, by simp⟩
    rintro k fr C ⟨i, x, own, rfl, hi, hAC, hnC, hblkC, hbuf, hown, hnT, hT, g0, g2, g4, g13, g14, g15⟩
    refine W.seq (W.ops (WO.p (by simp [g14, g15]; rfl) (WO.nil ?_)))
    by_cases hlt : i < l.length
    · have e1 := List.getElem?_eq_getElem hlt
      obtain ⟨_, _, he, _, h1⟩ := hv C hAC
      simp only [Value.slice.injEq] at he
      obtain ⟨rfl, _, rfl⟩ := he
      obtain ⟨a1, rfl, ld1⟩ := h1 i _ e1
      obtain ⟨y, D, d1, d2, d3, d4⟩ := append_node (M := M) (b := l[i]) (l := -1) (r := -1) hbuf (leafs_ints _) (by omega)
      obtain ⟨yb, yc, hy⟩ := d3.slice
      have hTD : Holds1 D B.next x := by
        obtain ⟨ov, q1, q2⟩ := hT
        exact ⟨ov, by rw [d4 _ hnT (fun h => by have := hown _ h; omega)]; exact q1, q2⟩
      obtain ⟨E, s1, s2, s3, s4⟩ := hTD.store (w := y) (by rw [hy]; rfl)
      refine W.seq (W.cond (z := true) (by simp; omega) (W.skip ?_))
      refine W.seq (W.block (W.seq (W.ops ?_)))
      refine WO.p (idx (a := a1) (n := l.length) (c := c1) (j := i) (by simp [g13]) (by simp [g15]) hlt) ?_
      refine WO.r (v := .int .i64 l[i]) (by simp [ld1]) ?_
      refine WO.p (by simp; rfl) (WO.nil ?_)
      refine W.ops ?_
      refine WO.p (v := .pointer (some ⟨2 * B.next, 0, none⟩)) (by simp [g4]) ?_
      refine WO.r (v := x) (by simp [hT.load]) ?_
      refine WO.p (by simp; rfl) ?_
      refine WO.p (v := .agg #[.int .i64 l[i], .int .i64 (-1), .int .i64 (-1)]) (by simp [Value.cells]; rfl) ?_
      refine WO.n (b := newCells (nd l[i] (-1) (-1)) 34 none) (mk := fun i => .slice (some ⟨2 * i, 0, none⟩) 1 1) (by simp [Value.cells]; rfl) ?_
      refine WO.e (v := y) (A1 := D) (by simp; exact d1) ?_
      refine WO.p (v := .pointer (some ⟨2 * B.next, 0, none⟩)) (by simp [g4]) ?_
      refine WO.e (v := undef) (A1 := E) (by simp [hy, Value.cells]; rw [hy] at s1; simp [s1]) (WO.nil ?_)
      simp only [blockQ]
      refine W.ops ?_
      refine WO.p (v := .int .i64 ((i + 1 : Nat) : Int)) (by simp [g15]; exact wr_small (by omega) (by omega)) ?_
      refine WO.p (by simp; rfl) (WO.nil ?_)
      have hBA : A.next < B.next := hnB
      refine ⟨_, ?_, i + 1, y, some (C.next + 1), rfl, hlt, ⟨by have := hAC.1; omega, fun j hj => ?_⟩, by omega, ?_, ?_, ?_, by omega, s3, by simp [g0], by simp [g2], by simp [g4], by simp [g13], by simp [g14], by simp⟩
      · omega
      · rw [s4 j (by omega), d4 j (by omega) (fun h => by have := hown j h; omega)]; exact hAC.2 j hj
      · rw [s4 _ (by omega), d4 _ hnC (fun h => by have := hown _ h; omega)]; exact hblkC
      · have : l.take (i + 1) = l.take i ++ [l[i]] := by rw [List.take_succ_eq_append_getElem hlt]
        rw [this, leafs_append]
        have d3' : Buf D 3 34 y (i + 1) (leafs (l.take i) ++ leafs [l[i]]) (some (C.next + 1)) := by simpa [leafs] using d3
        cases d3' with
        | some ii n nn ov zs cs hi' hb hn hpos hc => exact .some _ _ nn ov zs _ (by omega) (by rw [s4 _ (by omega)]; exact hb) hn hpos hc
      · intro j hj; cases hj; omega
    · have hin : i = l.length := by omega
      subst hin
      rw [List.take_length] at hbuf
      refine W.seq (W.cond (z := false) (by simp) (W.exit ?_))
      simp only [blockQ, thenQ, if_true]
      refine W.seq (W.seq (W.ops ?_))
      refine WO.p (by simp [g0]; rfl) ?_
      refine WO.p (by simp; rfl) ?_
      refine WO.p (v := .int .i64 ((l.length : Int) - 2)) (by simp; exact wr_small (by omega) (by omega)) ?_
      refine WO.p (by simp; rfl) (WO.nil ?_)
      refine W.block ?_
      refine W.rounds (fun k fr D => ∃ (i : Nat) (v : Value) (own : Option Nat), k = l.length - 1 - i ∧ i ≤ l.length - 1 ∧ Ext A D ∧ A.next < D.next ∧ D.blk A.next = .cells 1 .nil [.slice none 0 0] 26 none ∧ Buf D 3 34 v (l.length + i) (leafs l ++ inner l.length i) own ∧ (∀ j, own = some j → B.next < j) ∧ B.next < D.next ∧ Holds1 D B.next v ∧
          fr.get 2 = some (.pointer (some ⟨2 * A.next, 0, none⟩)) ∧ fr.get 4 = some (.pointer (some ⟨2 * B.next, 0, none⟩)) ∧ fr.get 7 = some (.int .i64 ((l.length : Int) - 2 - i))) ?_ (l.length - 1) _ _
        ⟨0, x, own, by simp, by simp, hAC, hnC, hblkC, by simpa [inner] using hbuf, hown, hnT, hT, by simp [g2], by simp [g4], by simp⟩
      rintro k fr2 D ⟨i, y, own2, rfl, hi2, hAD, hnD, hblkD, hbuf2, hown2, hnT2, hT2, f2, f4, f7⟩
      obtain ⟨yb, yc, hy⟩ := hbuf2.slice
      refine W.seq (W.seq (W.ops ?_))
      refine WO.p (by simp [f7]; rfl) ?_
      refine WO.p (by simp; rfl) (WO.nil ?_)
      by_cases hlt2 : i < l.length - 1
      · obtain ⟨z, E, d1, d2, d3, d4⟩ := append_node (M := M) (b := 0) (l := (l.length : Int) - 2 - i) (r := (l.length : Int) + i - 1) hbuf2 (ints_append (leafs_ints _) (inner_ints _ _)) (by omega)
        obtain ⟨zb, zc, hz⟩ := d3.slice
        have hTE : Holds1 E B.next y := by
          obtain ⟨ov, q1, q2⟩ := hT2
          exact ⟨ov, by rw [d4 _ hnT2 (fun h => by have := hown2 _ h; omega)]; exact q1, q2⟩
        obtain ⟨G, s1, s2, s3, s4⟩ := hTE.store (w := z) (by rw [hz]; rfl)
        refine W.cond (z := true) (by simp; omega) (W.skip ?_)
        refine W.seq (W.block (W.ops ?_))
        refine WO.p (v := .pointer (some ⟨2 * B.next, 0, none⟩)) (by simp [f4]) ?_
        refine WO.r (v := y) (by simp [hT2.load]) ?_
        refine WO.p (by simp [f7]; rfl) ?_
        refine WO.p (v := .pointer (some ⟨2 * B.next, 0, none⟩)) (by simp [f4]) ?_
        refine WO.r (v := y) (by simp [hT2.load]) ?_
        refine WO.p (v := .int .i64 ((l.length + i : Nat) : Int)) (by simp [hy]) ?_
        refine WO.p (v := .int .i64 ((l.length : Int) + i - 1)) (by simp; exact wr_small (by omega) (by omega)) ?_
        refine WO.p (v := .agg #[.int .i64 0, .int .i64 ((l.length : Int) - 2 - i), .int .i64 ((l.length : Int) + i - 1)]) (by simp [Value.cells]; rfl) ?_
        refine WO.n (b := newCells (nd 0 ((l.length : Int) - 2 - i) ((l.length : Int) + i - 1)) 34 none) (mk := fun i => .slice (some ⟨2 * i, 0, none⟩) 1 1) (by simp [Value.cells]; rfl) ?_
        refine WO.e (v := z) (A1 := E) (by simp; exact d1) ?_
        refine WO.p (v := .pointer (some ⟨2 * B.next, 0, none⟩)) (by simp [f4]) ?_
        refine WO.e (v := undef) (A1 := G) (by simp [hz, Value.cells]; rw [hz] at s1; simp [s1]) (WO.nil ?_)
        simp only [blockQ]
        refine W.ops ?_
        refine WO.p (by simp [f7]; rfl) ?_
        refine WO.p (v := .int .i64 ((l.length : Int) - 2 - (i + 1 : Nat))) (by simp; rw [wr_small (by omega) (by omega)]; omega) ?_
        refine WO.p (by simp; rfl) (WO.nil ?_)
        refine ⟨_, ?_, i + 1, z, some (D.next + 1), rfl, by omega, ⟨by have := hAD.1; omega, fun j hj => ?_⟩, by omega, ?_, ?_, ?_, by omega, s3, by simp [f2], by simp [f4], by simp⟩
        · omega
        · rw [s4 j (by omega), d4 j (by omega) (fun h => by have := hown2 j h; omega)]; exact hAD.2 j hj
        · rw [s4 _ (by omega), d4 _ hnD (fun h => by have := hown2 _ h; omega)]; exact hblkD
        · simp only [inner]
          rw [← List.append_assoc]
          have d3' : Buf E 3 34 z (l.length + (i + 1)) (leafs l ++ inner l.length i ++ nd 0 ((l.length : Int) - 2 - i) ((l.length : Int) + i - 1)) (some (D.next + 1)) := d3
          cases d3' with
          | some ii n nn ov zs cs hi' hb hn hpos hc => exact .some _ _ nn ov zs _ (by omega) (by rw [s4 _ (by omega)]; exact hb) hn hpos hc
        · intro j hj; cases hj; omega
      · have hin2 : i = l.length - 1 := by omega
        subst hin2
        refine W.cond (z := false) (by simp; omega) (W.exit ?_)
        simp only [blockQ, thenQ, if_true]
        refine W.seq (W.ops ?_)
        refine WO.r (v := .agg #[y]) ?_ ?_
        · simp [readR_loadA, f4, AH.loadC, AH.loadN, hT2.load]
        refine WO.e (v := undef) (A1 := D.put A.next (.cells 1 (T.nil.set 0 y) [.slice none 0 0] 26 none)) ?_ ?_
        · simp only [effR, effR_store]
          simp [Value.cells, f2]
          rw [store_new hblkD (by simp) (by rw [hy]; rfl)]; rfl
        refine WO.p (by simp; rfl) (WO.nil (W.ret ?_))
        refine ⟨[.agg #[y], .int .i64 0], ?_, ⟨hAD.1, fun j hj => by rw [blk_put, if_neg (by omega)]; exact hAD.2 j hj⟩, .inr ⟨hok, y, own2, rfl, ?_, fun j hj => by have := hown2 j hj; omega⟩⟩
        · simp only [resOf]
          simp [f2]
          rw [res_cell]
        · have e : l.length + (l.length - 1) = 2 * l.length - 1 := by omega
          rw [e] at hbuf2
          exact hbuf2.other fun h => by have := hown2 A.next h; omega
end Go.Proofs.AM.I28

namespace Go.Proofs.AM.I28
open Go Go.Proofs.AM
set_option linter.unusedVariables false

theorem ints_get : ∀ {cs : List Value} {k : Nat} {v : Value}, ints cs = true → cs[k]? = some v → ∃ d x, v = .int d x
  | [], k, v, _, h => by simp at h
  | .int d x :: cs, 0, v, _, h => by simp at h; exact ⟨d, x, h.symm⟩
  | .int d x :: cs, k + 1, v, hi, h => ints_get (cs := cs) (k := k) (by simpa only [ints] using hi) (by simpa using h)

/-- A node read. -/
theorem buf_node {M : Old} {A : AH} {e : TypeId} {v : Value} {n : Nat} {cs : List Value} {own : Option Nat} (h : Buf A 3 e v n cs own) {j : Nat} (hj : j < n) {x y z : Value} (hx : cs[j * 3]? = some x) (hy : cs[j * 3 + 1]? = some y) (hz : cs[j * 3 + 2]? = some z) :
    ∃ a cap, v = .slice (some a) n cap ∧ A.loadC M (addA a (j * 3)) 3 = some [x, y, z] := by
  cases h with
  | nil => omega
  | some i n nn ov zs cs hi hb hn hpos hc =>
    refine ⟨_, _, rfl, ?_⟩
    have hadd : addA ⟨2 * i, 0, none⟩ (j * 3) = ⟨2 * i, j * 3, none⟩ := by
      unfold addA
      cases j * 3 <;> simp
    rw [hadd]
    have := loadN_of (M := M) (A := A) (b := 2 * i) [x, y, z] (j * 3) fun k w hk => by
      rw [load_new hb]
      match k, hk with
      | 0, hk => simp at hk; subst hk; exact hc _ _ hx
      | 1, hk => simp at hk; subst hk; exact hc _ _ hy
      | 2, hk => simp at hk; subst hk; exact hc _ _ hz
      | k + 3, hk => simp at hk
    exact this

attribute [local simp] pureR_fieldAddr addA_zero pureR pureR_mov pureR_bin pureR_lenSlice pureR_indexAddr pureR_pick pureR_not pureR_build readR readR_load1 readR_lookup Fr.ev evTmp putD T.get_set binI sameIn sameO sameV sameA sameF ltI_eq eqI_eq thenQ T.setL newR newR_alloc newR_buildSlice wants isB isKey callR fillA rep effR effR_append effR_store

attribute [local simp] newR_box readR_loadA

theorem sameVtree {M : Old} {A : AH} {v w : Value} {n : Nat} {cs : List Value} {own own' : Option Nat} (hv : Buf A 3 34 v n cs own) (hw : Buf A 3 34 w n cs own') (hi : ints cs = true) (hn : n < 2 ^ 39) (hlen : cs.length = n * 3) :
    WC M FT 10 [.agg #[v], .agg #[w]] A fun r A' => r = .bool true ∧ Ext A A' := by
  obtain ⟨vb, vc, hvs⟩ := hv.slice
  obtain ⟨wb, wc, hws⟩ := hw.slice
  refine WC.enter (fn := ir10) rfl rfl ?_
  unfold ir10
  refine W.seq (W.ops ?_)
  refine WO.n (b := newCells [v] 26 none) (mk := fun i => .pointer (some ⟨2 * i, 0, none⟩)) (by simp [Value.cells, hvs, allOne, oneV]) ?_
  refine WO.n (b := newCells [w] 26 none) (mk := fun i => .pointer (some ⟨2 * i, 0, none⟩)) (by simp [Value.cells, hws, allOne, oneV]) ?_
  have e1 : Ext A ((A.push (newCells [v] 26 none)).push (newCells [w] 26 none)) := (ext_push _ _).trans (ext_push _ _)
  have b1 : ((A.push (newCells [v] 26 none)).push (newCells [w] 26 none)).blk A.next = newCells [v] 26 none := by rw [blk_push, if_neg (by simp [AH.push]), blk_push, if_pos rfl]
  have b2 : ((A.push (newCells [v] 26 none)).push (newCells [w] 26 none)).blk (A.next + 1) = newCells [w] 26 none := by rw [blk_push, if_pos (by simp [AH.push])]
  have hnx : (A.push (newCells [v] 26 none)).next = A.next + 1 := rfl
  rw [hnx]
  generalize hC : (A.push (newCells [v] 26 none)).push (newCells [w] 26 none) = C at e1 b1 b2 ⊢
  have l1 : C.load M ⟨2 * A.next, 0, none⟩ = some v := by rw [load_new b1]; exact cells_new rfl []
  have l2 : C.load M ⟨2 * (A.next + 1), 0, none⟩ = some w := by rw [load_new b2]; exact cells_new rfl []
  have hvC := hv.ext e1
  have hwC := hw.ext e1
  refine WO.p (by simp; rfl) (WO.nil ?_)
  refine W.seq (W.seq (W.ops ?_))
  refine WO.p (v := .pointer (some ⟨2 * A.next, 0, none⟩)) (by simp) ?_
  refine WO.r (v := v) (by simp [l1]) ?_
  refine WO.p (v := .int .i64 n) (by simp [hvs]) ?_
  refine WO.p (v := .pointer (some ⟨2 * (A.next + 1), 0, none⟩)) (by simp) ?_
  refine WO.r (v := w) (by simp [l2]) ?_
  refine WO.p (v := .int .i64 n) (by simp [hws]) ?_
  refine WO.p (v := .bool false) (by simp) (WO.nil ?_)
  refine W.cond (z := false) (by simp) (W.skip ?_)
  refine W.seq (W.seq (W.ops ?_))
  refine WO.p (v := .pointer (some ⟨2 * A.next, 0, none⟩)) (by simp) ?_
  refine WO.r (v := v) (by simp [l1]) ?_
  refine WO.p (v := .int .i64 n) (by simp [hvs]) ?_
  refine WO.p (by simp; rfl) (WO.nil ?_)
  refine W.block ?_
  refine W.rounds (fun k fr D => ∃ i : Nat, k = n - i ∧ i ≤ n ∧ D = C ∧ fr.get 2 = some (.pointer (some ⟨2 * A.next, 0, none⟩)) ∧ fr.get 3 = some (.pointer (some ⟨2 * (A.next + 1), 0, none⟩)) ∧ fr.get 15 = some (.int .i64 n) ∧ fr.get 16 = some (.int .i64 i)) ?_ n _ _ ⟨0, by simp, by simp, rfl, by simp, by simp, by simp, by simp⟩
  rintro k fr D ⟨i, rfl, hin, rfl, g2, g3, g15, g16⟩
  refine W.seq (W.ops (WO.p (by simp [g15, g16]; rfl) (WO.nil ?_)))
  by_cases hlt : i < n
  rotate_left
  · refine W.seq (W.cond (z := false) (by simp; omega) (W.exit ?_))
    simp only [blockQ, thenQ, if_true]
    refine W.seq (W.ops (WO.p (by simp; rfl) (WO.nil (W.ret ?_))))
    exact ⟨_, by simp [resOf]; rfl, by simp [resV], e1⟩
  have q0 := List.getElem?_eq_getElem (l := cs) (show i * 3 < cs.length by omega)
  have q1 := List.getElem?_eq_getElem (l := cs) (show i * 3 + 1 < cs.length by omega)
  have q2 := List.getElem?_eq_getElem (l := cs) (show i * 3 + 2 < cs.length by omega)
  obtain ⟨d0, x0, hx0⟩ := ints_get hi q0
  obtain ⟨d1, x1, hx1⟩ := ints_get hi q1
  obtain ⟨d2, x2, hx2⟩ := ints_get hi q2
  rw [hx0] at q0
  rw [hx1] at q1
  rw [hx2] at q2
  obtain ⟨a, ca, ha, la⟩ := buf_node (M := M) hvC hlt q0 q1 q2
  obtain ⟨b, cb, hb, lb⟩ := buf_node (M := M) hwC hlt q0 q1 q2
  refine W.seq (W.cond (z := true) (by simp; omega) (W.skip ?_))
  refine W.seq (W.block (W.seq (W.ops ?_)))
  refine WO.p (by simp [g16]; rfl) ?_
  refine WO.p (by simp; rfl) (WO.nil ?_)
  refine W.seq (W.drawn ?_)
  refine WD.p (v := .pointer (some ⟨2 * A.next, 0, none⟩)) (by simp [g2]) ?_
  refine WD.r (v := v) (by simp [l1]) (by simp [l1, ha]) ?_
  refine WD.p (by simp; rfl) ?_
  refine WD.p (idx (a := a) (n := n) (c := ca) (j := i) (by simp [ha]) (by simp) hlt) ?_
  refine WD.r (v := .agg #[.int d0 x0, .int d1 x1, .int d2 x2]) (by simp [la]) (by simp [la, sameL]) ?_
  refine WD.p (v := .pointer (some ⟨2 * (A.next + 1), 0, none⟩)) (by simp [g3]) ?_
  refine WD.r (v := w) (by simp [l2]) (by simp [l2, hb]) ?_
  refine WD.p (by simp; rfl) ?_
  refine WD.p (idx (a := b) (n := n) (c := cb) (j := i) (by simp [hb]) (by simp) hlt) ?_
  refine WD.r (v := .agg #[.int d0 x0, .int d1 x1, .int d2 x2]) (by simp [lb]) (by simp [lb, sameL]) ?_
  refine WD.p (v := .bool false) (by simp [pureR_eqv, eqvA, eqCells, keyEq, keyEqI]) (WD.nil ?_)
  refine W.cond (z := false) (by simp) (W.skip ?_)
  simp only [blockQ]
  refine W.ops ?_
  refine WO.p (v := .int .i64 ((i + 1 : Nat) : Int)) (by simp [g16]; exact wr_small (by omega) (by omega)) ?_
  refine WO.p (by simp; rfl) (WO.nil ?_)
  refine ⟨_, ?_, i + 1, rfl, hlt, rfl, by simp [g2], by simp [g3], by simp [g15], by simp⟩
  omega
end Go.Proofs.AM.I28

namespace Go.Proofs.AM.I28
open Go Go.Proofs.AM
set_option linter.unusedVariables false

/-- A slice of ints that was there before the run. -/
def Arg (M : Old) (v : Value) (l : List Int) : Prop :=
  (v = emptyCut ∧ l = []) ∨ ∃ base cap, v = .slice base l.length cap ∧ l.length < 2 ^ 60 ∧ l.length ≤ cap ∧ cap < UNK ∧ ((base = none ∧ l = []) ∨ ∃ b o, base = some ⟨2 * b + 1, o, none⟩ ∧ ∀ i x, l[i]? = some x → M b (o + i) = some (.int .i64 x))

theorem load_old {M : Old} {A : AH} {b o : Nat} : A.load M ⟨2 * b + 1, o, none⟩ = M b o := by
  unfold AH.load
  have h1 : ¬ (2 * b + 1) % 2 = 0 := by omega
  have h2 : (2 * b + 1) / 2 = b := by omega
  simp only
  rw [beqNe (show (2 * b + 1) % 2 ≠ 0 from h1), cond_false, h2]
theorem addA_add (b o i : Nat) : addA ⟨b, o, none⟩ i = ⟨b, o + i, none⟩ := by
  cases i <;> rfl
theorem Arg.ints {M : Old} {v : Value} {l : List Int} (h : Arg M v l) (A : AH) : Ints M A v l := by
  rcases h with ⟨h1, h2⟩ | ⟨base, cap, h1, h2, h3, h4, h5⟩
  · subst h2; exact ⟨_, _, h1, by decide, fun i x hx => by simp at hx⟩
  refine ⟨base, cap, h1, h2, fun i x hx => ?_⟩
  rcases h5 with ⟨_, h6⟩ | ⟨b, o, h6, h7⟩
  · rw [h6] at hx; simp at hx
  · exact ⟨_, h6, by rw [addA_add, load_old]; exact h7 i x hx⟩

theorem slice_to {base : Option Addr} {n cap k : Nat} (h1 : cap ≠ UNK) (h2 : k ≤ cap) : sliceA 1 (.slice base n cap) none (some (.int .i64 (k : Int))) none = some (.slice base k cap) := by
  show cond (Nat.beq cap UNK) _ (match cutA n cap none (some (.int .i64 (Int.ofNat k))) with | none => none | some (l', h') => _) = _
  rw [beqNe h1, cond_false]
  simp only [cutA, bndA]
  rw [ble_of h2, cond_true]
  cases base with
  | none => simp only; cases Nat.beq cap 0 <;> rfl
  | some a => simp only; cases Nat.beq cap 0 <;> rfl
theorem slice_from {a : Addr} {n cap k : Nat} (h1 : cap ≠ UNK) (h2 : k < n) (h3 : n ≤ cap) : sliceA 1 (.slice (some a) n cap) (some (.int .i64 (k : Int))) none none = some (.slice (some (addA a k)) (n - k) (cap - k)) := by
  show cond (Nat.beq cap UNK) _ (match cutA n cap (some (.int .i64 (Int.ofNat k))) none with | none => none | some (l', h') => _) = _
  rw [beqNe h1, cond_false]
  simp only [cutA, bndA]
  rw [ble_of (by omega), cond_true]
  simp only
  rw [beqNe (by omega), cond_false, Nat.mul_one]

/-- The first h elements. -/
theorem Arg.cutTo {M : Old} {v : Value} {l : List Int} (h : Arg M v l) {k : Nat} (hk : k ≤ l.length) (h0 : 0 < l.length) : ∃ w, sliceA 1 v none (some (.int .i64 (k : Int))) none = some w ∧ Arg M w (l.take k) := by
  rcases h with ⟨h1, h2⟩ | ⟨base, cap, rfl, h2, h3, h4, h5⟩
  · subst h2; simp at h0
  refine ⟨_, slice_to (by omega) (by omega), ?_⟩
  have hl : (l.take k).length = k := by simp; omega
  refine .inr ⟨base, cap, by rw [hl], by omega, by omega, h4, ?_⟩
  rcases h5 with ⟨h6, h7⟩ | ⟨b, o, h6, h7⟩
  · exact .inl ⟨h6, by rw [h7]; simp⟩
  · refine .inr ⟨b, o, h6, fun i x hx => h7 i x ?_⟩
    rw [List.getElem?_take] at hx
    split at hx
    · exact hx
    · cases hx
/-- All but the first k. -/
theorem Arg.cutFrom {M : Old} {v : Value} {l : List Int} (h : Arg M v l) {k : Nat} (hk : k < l.length) : ∃ w, sliceA 1 v (some (.int .i64 (k : Int))) none none = some w ∧ Arg M w (l.drop k) := by
  rcases h with ⟨h1, h2⟩ | ⟨base, cap, rfl, h2, h3, h4, h5⟩
  · subst h2; simp at hk
  have hl : (l.drop k).length = l.length - k := by simp
  rcases h5 with ⟨h6, h7⟩ | ⟨b, o, h6, h7⟩
  · rw [h7] at hk; simp at hk
  · subst h6
    refine ⟨_, slice_from (by omega) hk h3, .inr ⟨some (addA ⟨2 * b + 1, o, none⟩ k), cap - k, by rw [hl], by omega, by omega, by omega, .inr ⟨b, o + k, by rw [addA_add], fun i x hx => ?_⟩⟩⟩
    rw [List.getElem?_drop] at hx
    have := h7 (k + i) x hx
    rwa [← Nat.add_assoc] at this
end Go.Proofs.AM.I28

namespace Go.Proofs.AM.I28
open Go Go.Proofs.AM
set_option linter.unusedVariables false

/-- The nodes of the balanced vtree, k nodes ahead of them. -/
def bal : Nat → Nat → List Int → List Value
  | 0, _, _ => []
  | _ + 1, _, [] => []
  | _ + 1, _, [b] => nd b (-1) (-1)
  | f + 1, k, b :: c :: l =>
    bal f k ((b :: c :: l).take ((l.length + 2) / 2)) ++ bal f (k + (2 * ((l.length + 2) / 2) - 1)) ((b :: c :: l).drop ((l.length + 2) / 2)) ++
      nd 0 ((k + (2 * ((l.length + 2) / 2) - 1) : Nat) - 1) ((k + (2 * (l.length + 2) - 2) : Nat) - 1)
theorem bal_ints : ∀ f k l, ints (bal f k l) = true
  | 0, k, l => rfl
  | f + 1, k, [] => rfl
  | f + 1, k, [b] => rfl
  | f + 1, k, b :: c :: l => by
    simp only [bal]
    exact ints_append (ints_append (bal_ints f _ _) (bal_ints f _ _)) rfl

attribute [local simp] pureR_fieldAddr addA_zero pureR pureR_mov pureR_bin pureR_lenSlice pureR_indexAddr pureR_pick pureR_not pureR_build readR readR_load1 readR_lookup Fr.ev evTmp putD T.get_set binI sameIn sameO sameV sameA sameF ltI_eq eqI_eq thenQ T.setL newR newR_alloc newR_buildSlice wants isB isKey callR fillA rep effR effR_append effR_store
attribute [local simp] pureR_slice

theorem quo2 {n : Nat} (h : n < 2 ^ 60) : binI .quo .i64 (n : Int) 2 = some (.int .i64 ((n / 2 : Nat) : Int)) := by
  rw [binI_quo _ _ _ (by decide)]
  rw [← wr_eq]
  have : ((n : Int).tdiv 2) = ((n / 2 : Nat) : Int) := by rw [Int.tdiv_eq_ediv_of_nonneg (by omega)]; omega
  rw [this, wr_small (by omega) (by omega)]
end Go.Proofs.AM.I28

namespace Go.Proofs.AM.I28
open Go Go.Proofs.AM
set_option linter.unusedVariables false

attribute [local simp] pureR_fieldAddr addA_zero pureR pureR_mov pureR_bin pureR_lenSlice pureR_indexAddr pureR_pick pureR_not pureR_build readR readR_load1 readR_lookup Fr.ev evTmp putD T.get_set binI sameIn sameO sameV sameA sameF ltI_eq eqI_eq thenQ T.setL newR newR_alloc newR_buildSlice wants isB isKey callR fillA rep effR effR_append effR_store
attribute [local simp] pureR_slice

theorem balanced20 {M : Old} : ∀ (f : Nat) (l : List Int), l.length ≤ f → ∀ (A : AH) (x v : Value) (n : Nat) (cs : List Value) (own : Option Nat), Buf A 3 34 x n cs own → ints cs = true → n + 2 * l.length < 2 ^ 38 → Arg M v l →
    WC M FT 20 [x, v] A fun y A' => ∃ own', A.next ≤ A'.next ∧ (∀ j, j < A.next → own ≠ some j → A'.blk j = A.blk j) ∧ Buf A' 3 34 y (n + (2 * l.length - 1)) (cs ++ bal f n l) own' ∧ (own' = own ∨ ∃ j, own' = some j ∧ A.next ≤ j) := by
  intro f
  induction f with
  | zero =>
    intro l hl A x v n cs own hb hi hn hv
    have : l = [] := List.eq_nil_of_length_eq_zero (by omega)
    subst this
    obtain ⟨base, cap, rfl, _⟩ := hv.ints A
    refine WC.enter (fn := ir20) rfl rfl ?_
    unfold ir20
    refine W.seq (W.ops (WO.p (by simp; rfl) (WO.nil ?_)))
    refine W.seq (W.seq (W.ops ?_))
    refine WO.p (by simp; rfl) ?_
    refine WO.p (by simp; rfl) (WO.nil ?_)
    refine W.block (W.seq (W.ops ?_))
    refine WO.p (by simp; rfl) ?_
    refine WO.p (by simp; rfl) (WO.nil ?_)
    refine W.cond (z := true) (by simp) ?_
    refine W.seq (W.ops ?_)
    refine WO.p (by simp; rfl) ?_
    refine WO.p (by simp; rfl) (WO.nil (W.ret ?_))
    simp only [blockQ, thenQ]
    exact ⟨_, by simp [resOf]; rfl, own, Nat.le_refl _, fun _ _ _ => rfl, by simp [bal]; exact hb, .inl rfl⟩
  | succ f ih =>
    intro l hl A x v n cs own hb hi hn hv
    obtain ⟨base, cap, rfl, _⟩ := hv.ints A
    refine WC.enter (fn := ir20) rfl rfl ?_
    unfold ir20
    refine W.seq (W.ops (WO.p (by simp; rfl) (WO.nil ?_)))
    refine W.seq (W.seq (W.ops ?_))
    refine WO.p (by simp; rfl) ?_
    refine WO.p (by simp; rfl) (WO.nil ?_)
    refine W.block (W.seq (W.ops ?_))
    refine WO.p (by simp; rfl) ?_
    refine WO.p (by simp; rfl) (WO.nil ?_)
    match l, hl, hn, hv with
    | [], hl, hn, hv =>
      refine W.cond (z := true) (by simp) ?_
      refine W.seq (W.ops ?_)
      refine WO.p (by simp; rfl) ?_
      refine WO.p (by simp; rfl) (WO.nil (W.ret ?_))
      simp only [blockQ, thenQ]
      exact ⟨_, by simp [resOf]; rfl, own, Nat.le_refl _, fun _ _ _ => rfl, by simp [bal]; exact hb, .inl rfl⟩
    | [b], hl, hn, hv =>
      obtain ⟨_, _, he, _, h1⟩ := hv.ints A
      simp only [Value.slice.injEq] at he
      obtain ⟨rfl, _, rfl⟩ := he
      obtain ⟨a1, rfl, ld1⟩ := h1 0 b rfl
      obtain ⟨y, D, d1, d2, d3, d4⟩ := append_node (M := M) (b := b) (l := -1) (r := -1) hb hi (by omega)
      refine W.cond (z := false) (by simp) ?_
      refine W.seq (W.ops ?_)
      refine WO.p (by simp; rfl) ?_
      refine WO.p (by simp; rfl) (WO.nil ?_)
      refine W.cond (z := true) (by simp) ?_
      refine W.seq (W.ops ?_)
      refine WO.p (by simp; rfl) ?_
      refine WO.p (by simp; rfl) ?_
      refine WO.p (idx (a := a1) (n := 1) (c := cap) (j := 0) (by simp) (by simp) (by omega)) ?_
      refine WO.r (v := .int .i64 b) (by simp [ld1]; exact ld1) ?_
      refine WO.p (v := .agg #[.int .i64 b, .int .i64 (-1), .int .i64 (-1)]) (by simp [Value.cells]; rfl) ?_
      refine WO.n (b := newCells (nd b (-1) (-1)) 34 none) (mk := fun i => .slice (some ⟨2 * i, 0, none⟩) 1 1) (by simp [Value.cells]; rfl) ?_
      refine WO.e (v := y) (A1 := D) (by simp; exact d1) ?_
      refine WO.p (by simp; rfl) (WO.nil (W.ret ?_))
      simp only [blockQ, thenQ]
      exact ⟨_, by simp [resOf]; rfl, _, Nat.le_of_lt d2, d4, by simp [bal]; exact d3, .inr ⟨_, rfl, by omega⟩⟩
    | b :: c :: l, hl, hn, hv =>
      have hL : (b :: c :: l).length = l.length + 2 := rfl
      have hquo : binI .quo .i64 ((l.length : Int) + 1 + 1) 2 = some (.int .i64 (((l.length + 2) / 2 : Nat) : Int)) := by
        have hq : (((l.length + 2 : Nat) : Int)) = (l.length : Int) + 1 + 1 := by omega
        rw [← hq]; exact quo2 (by omega)
      have hh : 1 ≤ (l.length + 2) / 2 ∧ (l.length + 2) / 2 < l.length + 2 := by omega
      obtain ⟨v1, q1, hv1⟩ := hv.cutTo (k := (l.length + 2) / 2) (by rw [hL]; omega) (by simp)
      obtain ⟨v2, q2, hv2⟩ := hv.cutFrom (k := (l.length + 2) / 2) (by rw [hL]; omega)
      refine W.cond (z := false) (by simp; omega) ?_
      refine W.seq (W.ops ?_)
      refine WO.p (by simp; rfl) ?_
      refine WO.p (by simp; rfl) (WO.nil ?_)
      refine W.cond (z := false) (by simp; omega) (W.skip ?_)
      simp only [blockQ, thenQ]
      generalize hk : (l.length + 2) / 2 = k at hquo hh q1 q2 hv1 hv2
      refine W.seq (W.ops ?_)
      refine WO.p (by simp; rfl) ?_
      refine WO.p (v := .int .i64 ((l.length : Int) + 1 + 1)) (by simp) ?_
      refine WO.p (v := .int .i64 (k : Int)) (by simp [-binI]; exact hquo) ?_
      refine WO.p (by simp; rfl) (WO.nil ?_)
      refine W.seq (W.ops ?_)
      refine WO.p (by simp; rfl) ?_
      refine WO.p (by simp; rfl) ?_
      refine WO.p (by simp; rfl) ?_
      refine WO.p (v := v1) (by simp; simpa using q1) ?_
      have l1 : ((b :: c :: l).take k).length = k := by simp; omega
      have l2 : ((b :: c :: l).drop k).length = l.length + 2 - k := by simp
      refine WO.call (g := 20) (gs := [x, v1]) (by simp [callR]) ((ih _ (by omega) A x v1 n cs own hb hi (by omega) hv1).mono ?_)
      rintro y B ⟨o1, n1, f1, hb1, ho1⟩
      rw [l1] at hb1
      obtain ⟨yb, yc, hy⟩ := hb1.slice
      refine WO.p (by simp; rfl) (WO.nil ?_)
      refine W.seq (W.ops ?_)
      refine WO.p (by simp; rfl) ?_
      refine WO.p (v := .int .i64 ((n + (2 * k - 1) : Nat) : Int)) (by simp [hy]) ?_
      refine WO.p (v := .int .i64 (((n + (2 * k - 1) : Nat) : Int) - 1)) (by simp; exact wr_small (by omega) (by omega)) ?_
      refine WO.p (by simp; rfl) (WO.nil ?_)
      refine W.seq (W.ops ?_)
      refine WO.p (by simp; rfl) ?_
      refine WO.p (by simp; rfl) ?_
      refine WO.p (by simp; rfl) ?_
      refine WO.p (v := v2) (by simp; simpa using q2) ?_
      have hi1 : ints (cs ++ bal f n ((b :: c :: l).take k)) = true := ints_append hi (bal_ints _ _ _)
      refine WO.call (g := 20) (gs := [y, v2]) (by simp [callR]) ((ih _ (by omega) B y v2 _ _ o1 hb1 hi1 (by omega) hv2).mono ?_)
      rintro z C ⟨o2, n2, f2, hb2, ho2⟩
      rw [l2] at hb2
      obtain ⟨zb, zc, hz⟩ := hb2.slice
      have hi2 : ints (cs ++ bal f n ((b :: c :: l).take k) ++ bal f (n + (2 * k - 1)) ((b :: c :: l).drop k)) = true := ints_append hi1 (bal_ints _ _ _)
      obtain ⟨y3, D, d1, d2, d3, d4⟩ := append_node (M := M) (b := 0) (l := ((n + (2 * k - 1) : Nat) : Int) - 1) (r := ((n + (2 * k - 1) + (2 * (l.length + 2 - k) - 1) : Nat) : Int) - 1) hb2 hi2 (by omega)
      refine WO.p (by simp; rfl) (WO.nil ?_)
      refine W.seq (W.ops ?_)
      refine WO.p (by simp; rfl) ?_
      refine WO.p (v := .int .i64 (((n + (2 * k - 1) : Nat) : Int) - 1)) (by simp) ?_
      refine WO.p (by simp; rfl) ?_
      refine WO.p (v := .int .i64 ((n + (2 * k - 1) + (2 * (l.length + 2 - k) - 1) : Nat) : Int)) (by simp [hz]) ?_
      refine WO.p (v := .int .i64 (((n + (2 * k - 1) + (2 * (l.length + 2 - k) - 1) : Nat) : Int) - 1)) (by simp; exact wr_small (by omega) (by omega)) ?_
      refine WO.p (v := .agg #[.int .i64 0, .int .i64 (((n + (2 * k - 1) : Nat) : Int) - 1), .int .i64 (((n + (2 * k - 1) + (2 * (l.length + 2 - k) - 1) : Nat) : Int) - 1)]) (by simp [Value.cells]; rfl) ?_
      refine WO.n (b := newCells (nd 0 (((n + (2 * k - 1) : Nat) : Int) - 1) (((n + (2 * k - 1) + (2 * (l.length + 2 - k) - 1) : Nat) : Int) - 1)) 34 none) (mk := fun i => .slice (some ⟨2 * i, 0, none⟩) 1 1) (by simp [Value.cells]; rfl) ?_
      refine WO.e (v := y3) (A1 := D) (by simp; exact d1) ?_
      refine WO.p (by simp; rfl) (WO.nil (W.ret ?_))
      refine ⟨_, by simp [resOf]; rfl, some (C.next + 1), by omega, fun j hj ho => ?_, ?_, .inr ⟨_, rfl, by omega⟩⟩
      · have h1 : o1 ≠ some j := by
          rcases ho1 with h | ⟨m, h, hm⟩
          · rw [h]; exact ho
          · rw [h]; intro h'; cases h'; omega
        have h2 : o2 ≠ some j := by
          rcases ho2 with h | ⟨m, h, hm⟩
          · rw [h]; exact h1
          · rw [h]; intro h'; cases h'; omega
        rw [d4 j (by omega) h2, f2 j (by omega) h1, f1 j hj ho]
      · have e1 : n + (2 * (b :: c :: l).length - 1) = n + (2 * k - 1) + (2 * (l.length + 2 - k) - 1) + 1 := by rw [hL]; omega
        rw [e1]
        have e2 : bal (f + 1) n (b :: c :: l) = bal f n ((b :: c :: l).take k) ++ bal f (n + (2 * k - 1)) ((b :: c :: l).drop k) ++ nd 0 (((n + (2 * k - 1) : Nat) : Int) - 1) (((n + (2 * k - 1) + (2 * (l.length + 2 - k) - 1) : Nat) : Int) - 1) := by
          have e3 : n + (2 * (l.length + 2) - 2) = n + (2 * k - 1) + (2 * (l.length + 2 - k) - 1) := by omega
          simp only [bal, hk, e3]
        rw [e2, ← List.append_assoc, ← List.append_assoc]
        exact d3
end Go.Proofs.AM.I28

namespace Go.Proofs.AM.I28
open Go Go.Proofs.AM
set_option linter.unusedVariables false
set_option linter.unusedSimpArgs false

attribute [local simp] pureR_fieldAddr addA_zero pureR pureR_mov pureR_bin pureR_lenSlice pureR_indexAddr pureR_pick pureR_not pureR_build readR readR_load1 readR_lookup Fr.ev evTmp putD T.get_set binI sameIn sameO sameV sameA sameF ltI_eq eqI_eq thenQ T.setL newR newR_alloc newR_buildSlice wants isB isKey callR fillA rep effR effR_append effR_store
attribute [local simp] pureR_slice

theorem balanced22 {M : Old} : ∀ (f : Nat) (l : List Int), l.length ≤ f → 0 < l.length → ∀ (A : AH) (x v : Value) (n : Nat) (cs : List Value) (own : Option Nat), Buf A 3 34 x n cs own → ints cs = true → n + 2 * l.length < 2 ^ 38 → Arg M v l →
    WC M FT 22 [x, v] A fun y A' => ∃ own', A.next ≤ A'.next ∧ (∀ j, j < A.next → own ≠ some j → A'.blk j = A.blk j) ∧ Buf A' 3 34 y (n + (2 * l.length - 1)) (cs ++ bal f n l) own' ∧ (own' = own ∨ ∃ j, own' = some j ∧ A.next ≤ j) := by
  intro f
  induction f with
  | zero => intro l hl h0; omega
  | succ f ih =>
    intro l hl hpos A x v n cs own hb hi hn hv
    obtain ⟨base, cap, rfl, _⟩ := hv.ints A
    refine WC.enter (fn := ir22) rfl rfl ?_
    unfold ir22
    refine W.seq (W.ops (WO.p (by simp; rfl) (WO.nil ?_)))
    refine W.seq (W.seq (W.ops ?_))
    refine WO.p (by simp; rfl) ?_
    refine WO.p (by simp; rfl) ?_
    refine WO.p (by simp; rfl) (WO.nil ?_)
    match l, hl, hpos, hn, hv with
    | [b], hl, hpos, hn, hv =>
      obtain ⟨_, _, he, _, h1⟩ := hv.ints A
      simp only [Value.slice.injEq] at he
      obtain ⟨rfl, _, rfl⟩ := he
      obtain ⟨a1, rfl, ld1⟩ := h1 0 b rfl
      obtain ⟨y, D, d1, d2, d3, d4⟩ := append_node (M := M) (b := b) (l := -1) (r := -1) hb hi (by omega)
      refine W.cond (z := true) (by simp) ?_
      refine W.seq (W.ops ?_)
      refine WO.p (by simp; rfl) ?_
      refine WO.p (by simp; rfl) ?_
      refine WO.p (idx (a := a1) (n := 1) (c := cap) (j := 0) (by simp) (by simp) (by omega)) ?_
      refine WO.r (v := .int .i64 b) (by simp; exact ld1) ?_
      refine WO.p (v := .agg #[.int .i64 b, .int .i64 (-1), .int .i64 (-1)]) (by simp [Value.cells]; rfl) ?_
      refine WO.n (b := newCells (nd b (-1) (-1)) 34 none) (mk := fun i => .slice (some ⟨2 * i, 0, none⟩) 1 1) (by simp [Value.cells]; rfl) ?_
      refine WO.e (v := y) (A1 := D) (by simp; exact d1) ?_
      refine WO.p (by simp; rfl) (WO.nil (W.ret ?_))
      simp only [thenQ]
      exact ⟨_, by simp [resOf]; rfl, _, Nat.le_of_lt d2, d4, by simp [bal]; exact d3, .inr ⟨_, rfl, by omega⟩⟩
    | b :: c :: l, hl, hpos, hn, hv =>
      have hL : (b :: c :: l).length = l.length + 2 := rfl
      have hquo : binI .quo .i64 ((l.length : Int) + 1 + 1) 2 = some (.int .i64 (((l.length + 2) / 2 : Nat) : Int)) := by
        have hq : (((l.length + 2 : Nat) : Int)) = (l.length : Int) + 1 + 1 := by omega
        rw [← hq]; exact quo2 (by omega)
      have hh : 1 ≤ (l.length + 2) / 2 ∧ (l.length + 2) / 2 < l.length + 2 := by omega
      obtain ⟨v1, q1, hv1⟩ := hv.cutTo (k := (l.length + 2) / 2) (by rw [hL]; omega) (by simp)
      obtain ⟨v2, q2, hv2⟩ := hv.cutFrom (k := (l.length + 2) / 2) (by rw [hL]; omega)
      generalize hk : (l.length + 2) / 2 = k at hquo hh q1 q2 hv1 hv2
      have l1 : ((b :: c :: l).take k).length = k := by simp; omega
      have l2 : ((b :: c :: l).drop k).length = l.length + 2 - k := by simp
      refine W.cond (z := false) (by simp; omega) (W.skip ?_)
      simp only [thenQ]
      refine W.seq (W.ops ?_)
      refine WO.p (by simp; rfl) ?_
      refine WO.p (by simp; rfl) ?_
      refine WO.p (by simp; rfl) ?_
      refine WO.p (v := .int .i64 ((l.length : Int) + 1 + 1)) (by simp) ?_
      refine WO.p (v := .int .i64 (k : Int)) (by simp [-binI]; exact hquo) ?_
      refine WO.p (v := v1) (by simp; simpa using q1) ?_
      refine WO.call (g := 22) (gs := [x, v1]) (by simp [callR]) ((ih _ (by omega) (by omega) A x v1 n cs own hb hi (by omega) hv1).mono ?_)
      rintro y B ⟨o1, n1, f1, hb1, ho1⟩
      rw [l1] at hb1
      obtain ⟨yb, yc, hy⟩ := hb1.slice
      refine WO.p (by simp; rfl) (WO.nil ?_)
      refine W.seq (W.ops ?_)
      refine WO.p (by simp; rfl) ?_
      refine WO.p (v := .int .i64 ((n + (2 * k - 1) : Nat) : Int)) (by simp [hy]) ?_
      refine WO.p (v := .int .i64 (((n + (2 * k - 1) : Nat) : Int) - 1)) (by simp; exact wr_small (by omega) (by omega)) ?_
      refine WO.p (by simp; rfl) (WO.nil ?_)
      refine W.seq (W.ops ?_)
      refine WO.p (by simp; rfl) ?_
      refine WO.p (by simp; rfl) ?_
      refine WO.p (by simp; rfl) ?_
      refine WO.p (v := .int .i64 ((l.length : Int) + 1 + 1)) (by simp) ?_
      refine WO.p (v := .int .i64 (k : Int)) (by simp [-binI]; exact hquo) ?_
      refine WO.p (v := v2) (by simp; simpa using q2) ?_
      have hi1 : ints (cs ++ bal f n ((b :: c :: l).take k)) = true := ints_append hi (bal_ints _ _ _)
      refine WO.call (g := 22) (gs := [y, v2]) (by simp [callR]) ((ih _ (by omega) (by omega) B y v2 _ _ o1 hb1 hi1 (by omega) hv2).mono ?_)
      rintro z C ⟨o2, n2, f2, hb2, ho2⟩
      rw [l2] at hb2
      obtain ⟨zb, zc, hz⟩ := hb2.slice
      have hi2 : ints (cs ++ bal f n ((b :: c :: l).take k) ++ bal f (n + (2 * k - 1)) ((b :: c :: l).drop k)) = true := ints_append hi1 (bal_ints _ _ _)
      obtain ⟨y3, D, d1, d2, d3, d4⟩ := append_node (M := M) (b := 0) (l := ((n + (2 * k - 1) : Nat) : Int) - 1) (r := ((n + (2 * k - 1) + (2 * (l.length + 2 - k) - 1) : Nat) : Int) - 1) hb2 hi2 (by omega)
      refine WO.p (by simp; rfl) (WO.nil ?_)
      refine W.seq (W.ops ?_)
      refine WO.p (by simp; rfl) ?_
      refine WO.p (v := .int .i64 (((n + (2 * k - 1) : Nat) : Int) - 1)) (by simp) ?_
      refine WO.p (by simp; rfl) ?_
      refine WO.p (v := .int .i64 ((n + (2 * k - 1) + (2 * (l.length + 2 - k) - 1) : Nat) : Int)) (by simp [hz]) ?_
      refine WO.p (v := .int .i64 (((n + (2 * k - 1) + (2 * (l.length + 2 - k) - 1) : Nat) : Int) - 1)) (by simp; exact wr_small (by omega) (by omega)) ?_
      refine WO.p (v := .agg #[.int .i64 0, .int .i64 (((n + (2 * k - 1) : Nat) : Int) - 1), .int .i64 (((n + (2 * k - 1) + (2 * (l.length + 2 - k) - 1) : Nat) : Int) - 1)]) (by simp [Value.cells]; rfl) ?_
      refine WO.n (b := newCells (nd 0 (((n + (2 * k - 1) : Nat) : Int) - 1) (((n + (2 * k - 1) + (2 * (l.length + 2 - k) - 1) : Nat) : Int) - 1)) 34 none) (mk := fun i => .slice (some ⟨2 * i, 0, none⟩) 1 1) (by simp [Value.cells]; rfl) ?_
      refine WO.e (v := y3) (A1 := D) (by simp; exact d1) ?_
      refine WO.p (by simp; rfl) (WO.nil (W.ret ?_))
      refine ⟨_, by simp [resOf]; rfl, some (C.next + 1), by omega, fun j hj ho => ?_, ?_, .inr ⟨_, rfl, by omega⟩⟩
      · have h1 : o1 ≠ some j := by
          rcases ho1 with h | ⟨m, h, hm⟩
          · rw [h]; exact ho
          · rw [h]; intro h'; cases h'; omega
        have h2 : o2 ≠ some j := by
          rcases ho2 with h | ⟨m, h, hm⟩
          · rw [h]; exact h1
          · rw [h]; intro h'; cases h'; omega
        rw [d4 j (by omega) h2, f2 j (by omega) h1, f1 j hj ho]
      · have e1 : n + (2 * (b :: c :: l).length - 1) = n + (2 * k - 1) + (2 * (l.length + 2 - k) - 1) + 1 := by rw [hL]; omega
        rw [e1]
        have e2 : bal (f + 1) n (b :: c :: l) = bal f n ((b :: c :: l).take k) ++ bal f (n + (2 * k - 1)) ((b :: c :: l).drop k) ++ nd 0 (((n + (2 * k - 1) : Nat) : Int) - 1) (((n + (2 * k - 1) + (2 * (l.length + 2 - k) - 1) : Nat) : Int) - 1) := by
          have e3 : n + (2 * (l.length + 2) - 2) = n + (2 * k - 1) + (2 * (l.length + 2 - k) - 1) := by omega
          simp only [bal, hk, e3]
        rw [e2, ← List.append_assoc, ← List.append_assoc]
        exact d3
end Go.Proofs.AM.I28

namespace Go.Proofs.AM.I28
open Go Go.Proofs.AM
set_option linter.unusedVariables false
set_option linter.unusedSimpArgs false

attribute [local simp] pureR_fieldAddr addA_zero pureR pureR_mov pureR_bin pureR_lenSlice pureR_indexAddr pureR_pick pureR_not pureR_build readR readR_load1 readR_lookup Fr.ev evTmp putD T.get_set binI sameIn sameO sameV sameA sameF ltI_eq eqI_eq thenQ T.setL newR newR_alloc newR_buildSlice wants isB isKey callR fillA rep effR effR_append effR_store
attribute [local simp] pureR_slice

theorem balancedC {M : Old} {A : AH} {v : Value} {l : List Int} (hl : l.length ≤ 300) (hv : Arg M v l) : WC M FT 7 [v] A fun r A' => Made A A' l (bal l.length 0 l) (2 * l.length - 1) r := by
  obtain ⟨b1, c1, rfl, hb1, _⟩ := hv.ints A
  refine WC.enter (fn := ir7) rfl rfl ?_
  unfold ir7
  refine W.seq (W.ops (WO.n (by simp; exact ⟨rfl, rfl⟩) (WO.p (by simp; rfl) (WO.nil ?_))))
  refine W.seq (W.seq (W.ops ?_))
  refine WO.p (by simp; rfl) ?_
  refine WO.call (g := 19) (gs := [.slice b1 l.length c1]) (by simp) ((validOrder (l := l) fun B hB => hv.ints B).mono ?_)
  rintro r B ⟨rfl, hB⟩
  refine WO.p (by simp; rfl) (WO.nil ?_)
  have hblk : B.blk A.next = .cells 1 .nil [.slice none 0 0] 26 none := by rw [hB.2 A.next (by simp [AH.push]), blk_push, if_pos rfl]
  have hAB : Ext A B := (ext_push A _).trans hB
  have hnB : A.next < B.next := Nat.lt_of_lt_of_le (by simp [AH.push]) hB.1
  cases hok : okOrd l with
  | false =>
    refine W.cond (z := true) (by simp) ?_
    refine W.seq (W.ops ?_)
    refine WO.p (by simp; rfl) ?_
    refine WO.e (v := undef) (A1 := B.put A.next (.cells 1 (T.nil.set 0 (.slice none 0 0)) [.slice none 0 0] 26 none)) ?_ ?_
    · simp only [effR, effR_store]
      simp [Value.cells]
      rw [store_new hblk (by simp) rfl]; rfl
    refine WO.p (by simp; rfl) (WO.nil (W.ret ?_))
    refine ⟨[.agg #[.slice none 0 0], .int .i64 1], ?_, ⟨hAB.1, fun j hj => by rw [blk_put, if_neg (by omega)]; exact hAB.2 j hj⟩, .inl ⟨hok, rfl⟩⟩
    simp only [resOf]
    simp
    rw [res_cell]
  | true =>
    refine W.cond (z := false) (by simp) (W.skip ?_)
    refine W.seq (W.ops ?_)
    refine WO.p (by simp; rfl) ?_
    refine WO.call (g := 20) (gs := [.slice none 0 0, .slice b1 l.length c1]) (by simp [callR]) ((balanced20 l.length l (Nat.le_refl _) B (.slice none 0 0) _ 0 [] none .nil rfl (by omega) hv).mono ?_)
    rintro y C ⟨own, n1, f1, hb, ho⟩
    obtain ⟨yb, yc, hy⟩ := hb.slice
    have hown : ∀ j, own = some j → B.next ≤ j := fun j hj => by
      rcases ho with h | ⟨m, h, hm⟩
      · rw [h] at hj; cases hj
      · rw [h] at hj; cases hj; exact hm
    have hblkC : C.blk A.next = .cells 1 .nil [.slice none 0 0] 26 none := by rw [f1 _ hnB (by simp)]; exact hblk
    refine WO.p (v := .agg #[y]) (by simp [hy, Value.cells]; rfl) ?_
    refine WO.e (v := undef) (A1 := C.put A.next (.cells 1 (T.nil.set 0 y) [.slice none 0 0] 26 none)) ?_ ?_
    · simp only [effR, effR_store]
      simp [Value.cells]
      rw [store_new hblkC (by simp) (by rw [hy]; rfl)]; rfl
    refine WO.p (by simp; rfl) (WO.nil (W.ret ?_))
    refine ⟨[.agg #[y], .int .i64 0], ?_, ⟨by have := hAB.1; show A.next ≤ C.next; omega, fun j hj => by rw [blk_put, if_neg (by omega), f1 j (by omega) (by simp)]; exact hAB.2 j hj⟩, .inr ⟨hok, y, own, rfl, ?_, fun j hj => by have := hown j hj; omega⟩⟩
    · simp only [resOf]
      simp
      rw [res_cell]
    · have := hb.other (k := A.next) (b := .cells 1 (T.nil.set 0 y) [.slice none 0 0] 26 none) fun h => by have := hown A.next h; omega
      simpa using this

theorem refBalancedC {M : Old} {A : AH} {v : Value} {l : List Int} (hl : l.length ≤ 300) (hv : Arg M v l) : WC M FT 9 [v] A fun r A' => Made A A' l (bal l.length 0 l) (2 * l.length - 1) r := by
  obtain ⟨b1, c1, rfl, hb1, _⟩ := hv.ints A
  refine WC.enter (fn := ir9) rfl rfl ?_
  unfold ir9
  refine W.seq (W.ops (WO.n (by simp; exact ⟨rfl, rfl⟩) (WO.p (by simp; rfl) (WO.nil ?_))))
  refine W.seq (W.seq (W.ops ?_))
  refine WO.p (by simp; rfl) ?_
  refine WO.call (g := 21) (gs := [.slice b1 l.length c1]) (by simp) ((orderOK (l := l) fun B hB => hv.ints B).mono ?_)
  rintro r B ⟨rfl, hB⟩
  refine WO.p (by simp; rfl) (WO.nil ?_)
  have hblk : B.blk A.next = .cells 1 .nil [.slice none 0 0] 26 none := by rw [hB.2 A.next (by simp [AH.push]), blk_push, if_pos rfl]
  have hAB : Ext A B := (ext_push A _).trans hB
  have hnB : A.next < B.next := Nat.lt_of_lt_of_le (by simp [AH.push]) hB.1
  cases hok : okOrd l with
  | false =>
    refine W.cond (z := true) (by simp) ?_
    refine W.seq (W.ops ?_)
    refine WO.p (by simp; rfl) ?_
    refine WO.e (v := undef) (A1 := B.put A.next (.cells 1 (T.nil.set 0 (.slice none 0 0)) [.slice none 0 0] 26 none)) ?_ ?_
    · simp only [effR, effR_store]
      simp [Value.cells]
      rw [store_new hblk (by simp) rfl]; rfl
    refine WO.p (by simp; rfl) (WO.nil (W.ret ?_))
    refine ⟨[.agg #[.slice none 0 0], .int .i64 1], ?_, ⟨hAB.1, fun j hj => by rw [blk_put, if_neg (by omega)]; exact hAB.2 j hj⟩, .inl ⟨hok, rfl⟩⟩
    simp only [resOf]
    simp
    rw [res_cell]
  | true =>
    refine W.cond (z := false) (by simp) (W.skip ?_)
    refine W.seq (W.seq (W.ops ?_))
    refine WO.p (by simp; rfl) ?_
    refine WO.p (by simp; rfl) ?_
    refine WO.p (by simp; rfl) (WO.nil ?_)
    by_cases h0 : l = []
    · subst h0
      refine W.cond (z := true) (by simp) ?_
      refine W.seq (W.ops ?_)
      refine WO.p (by simp; rfl) ?_
      refine WO.e (v := undef) (A1 := B.put A.next (.cells 1 (T.nil.set 0 (.slice none 0 0)) [.slice none 0 0] 26 none)) ?_ ?_
      · simp only [effR, effR_store]
        simp [Value.cells]
        rw [store_new hblk (by simp) rfl]; rfl
      refine WO.p (by simp; rfl) (WO.nil (W.ret ?_))
      refine ⟨[.agg #[.slice none 0 0], .int .i64 0], ?_, ⟨hAB.1, fun j hj => by rw [blk_put, if_neg (by omega)]; exact hAB.2 j hj⟩, .inr ⟨hok, .slice none 0 0, none, rfl, .nil, fun j hj => by cases hj⟩⟩
      simp only [resOf]
      simp
      rw [res_cell]
    have hpos : 0 < l.length := List.length_pos_iff.2 h0
    refine W.cond (z := false) (by simp; omega) (W.skip ?_)
    refine W.seq (W.ops ?_)
    refine WO.p (by simp; rfl) ?_
    refine WO.call (g := 22) (gs := [.slice none 0 0, .slice b1 l.length c1]) (by simp [callR]) ((balanced22 l.length l (Nat.le_refl _) hpos B (.slice none 0 0) _ 0 [] none .nil rfl (by omega) hv).mono ?_)
    rintro y C ⟨own, n1, f1, hb, ho⟩
    obtain ⟨yb, yc, hy⟩ := hb.slice
    have hown : ∀ j, own = some j → B.next ≤ j := fun j hj => by
      rcases ho with h | ⟨m, h, hm⟩
      · rw [h] at hj; cases hj
      · rw [h] at hj; cases hj; exact hm
    have hblkC : C.blk A.next = .cells 1 .nil [.slice none 0 0] 26 none := by rw [f1 _ hnB (by simp)]; exact hblk
    refine WO.p (v := .agg #[y]) (by simp [hy, Value.cells]; rfl) ?_
    refine WO.e (v := undef) (A1 := C.put A.next (.cells 1 (T.nil.set 0 y) [.slice none 0 0] 26 none)) ?_ ?_
    · simp only [effR, effR_store]
      simp [Value.cells]
      rw [store_new hblkC (by simp) (by rw [hy]; rfl)]; rfl
    refine WO.p (by simp; rfl) (WO.nil (W.ret ?_))
    refine ⟨[.agg #[y], .int .i64 0], ?_, ⟨by have := hAB.1; show A.next ≤ C.next; omega, fun j hj => by rw [blk_put, if_neg (by omega), f1 j (by omega) (by simp)]; exact hAB.2 j hj⟩, .inr ⟨hok, y, own, rfl, ?_, fun j hj => by have := hown j hj; omega⟩⟩
    · simp only [resOf]
      simp
      rw [res_cell]
    · have := hb.other (k := A.next) (b := .cells 1 (T.nil.set 0 y) [.slice none 0 0] 26 none) fun h => by have := hown A.next h; omega
      simpa using this
end Go.Proofs.AM.I28

namespace Go.Proofs.AM.I28
open Go Go.Proofs.AM
set_option linter.unusedVariables false
set_option linter.unusedSimpArgs false

attribute [local simp] pureR_fieldAddr addA_zero pureR pureR_mov pureR_bin pureR_lenSlice pureR_indexAddr pureR_pick pureR_not pureR_build readR readR_load1 readR_lookup Fr.ev evTmp putD T.get_set binI sameIn sameO sameV sameA sameF ltI_eq eqI_eq thenQ T.setL newR newR_alloc newR_buildSlice wants isB isKey callR fillA rep effR effR_append effR_store
attribute [local simp] pureR_slice pureR_extract readR_loadA

theorem Made.uni {A A' : AH} {l : List Int} {cs : List Value} {n : Nat} {r : Value} (h : Made A A' l cs n r) :
    ∃ v own, r = .tuple #[.agg #[v], .int .i64 (if okOrd l then 0 else 1)] ∧ Buf A' 3 34 v (if okOrd l then n else 0) (if okOrd l then cs else []) own ∧ (∀ j, own = some j → A.next ≤ j) ∧ Ext A A' := by
  obtain ⟨h1, ⟨h2, h3⟩ | ⟨h2, v, own, h3, h4, h5⟩⟩ := h
  · refine ⟨.slice none 0 0, none, by rw [h3, h2]; rfl, ?_, fun j hj => (by cases hj), h1⟩
    rw [h2]; exact .nil
  · refine ⟨v, own, by rw [h3, h2]; rfl, ?_, h5, h1⟩
    rw [h2]; exact h4

/-- The variable that takes a result. -/
theorem var_new {A : AH} {v : Value} {n : Nat} {cs : List Value} {own : Option Nat} (h : Buf A 3 34 v n cs own) :
    ∃ B, (A.push (.cells 1 .nil [.slice none 0 0] 26 none)).store ⟨2 * A.next, 0, none⟩ [v] = some B ∧ Ext A B ∧ A.next < B.next ∧ Holds1 B A.next v := by
  obtain ⟨b, c, hv⟩ := h.slice
  have h1 : Holds1 (A.push (.cells 1 .nil [.slice none 0 0] 26 none)) A.next v ∨ True := .inr trivial
  have hb : (A.push (.cells 1 .nil [.slice none 0 0] 26 none)).blk A.next = .cells 1 .nil [.slice none 0 0] 26 none := by rw [blk_push, if_pos rfl]
  refine ⟨_, store_new hb (by simp) (by rw [hv]; rfl), ⟨by simp [AH.put, AH.push], fun i hi => by rw [blk_put, if_neg (by omega), blk_push, if_neg (by omega)]⟩, by simp [AH.put, AH.push], _, by rw [blk_put, if_pos rfl], by simp [T.setL, T.get_set]⟩

theorem bal_length : ∀ f k l, l.length ≤ f → (bal f k l).length = (2 * l.length - 1) * 3
  | 0, k, l, h => by have : l = [] := List.eq_nil_of_length_eq_zero (by omega)
                     subst this; rfl
  | f + 1, k, [], h => rfl
  | f + 1, k, [b], h => rfl
  | f + 1, k, b :: c :: l, h => by
    simp only [List.length_cons] at h
    have h1 : ((b :: c :: l).take ((l.length + 2) / 2)).length = (l.length + 2) / 2 := by simp; omega
    have h2 : ((b :: c :: l).drop ((l.length + 2) / 2)).length = l.length + 2 - (l.length + 2) / 2 := by simp
    simp only [bal, List.length_append]
    rw [bal_length f _ _ (by omega), bal_length f _ _ (by omega), h1, h2]
    simp only [nd, List.length_cons, List.length_nil]
    omega
theorem leafs_length : ∀ l, (leafs l).length = l.length * 3
  | [] => rfl
  | b :: l => by simp only [leafs, List.length_append, leafs_length l, nd, List.length_cons, List.length_nil]; omega
theorem inner_length (n : Nat) : ∀ k, (inner n k).length = k * 3
  | 0 => rfl
  | k + 1 => by simp only [inner, List.length_append, inner_length n k, nd, List.length_cons, List.length_nil]; omega
theorem rl_length (l : List Int) : (rl l).length = (2 * l.length - 1) * 3 := by
  simp only [rl, List.length_append, leafs_length, inner_length]
  omega

theorem Holds1.ext {A B : AH} {i : Nat} {v : Value} (h : Holds1 A i v) (hx : Ext A B) (hi : i < A.next) : Holds1 B i v := by
  obtain ⟨ov, h1, h2⟩ := h
  exact ⟨ov, by rw [hx.2 i hi]; exact h1, h2⟩

theorem awakeC {M : Old} {A : AH} : WC M FT 5 [] A fun r A' => r = .bool true ∧ A' = A := ⟨0, .bool true, A, rfl, rfl, rfl⟩

theorem lawConstructions {M : Old} {A : AH} {v : Value} {l : List Int} (hv : Arg M v l) : WC M FT 3 [v] A fun r _ => r = .bool true := by
  obtain ⟨b1, c1, rfl, hb1, _⟩ := hv.ints A
  refine WC.enter (fn := ir3) rfl rfl ?_
  unfold ir3
  refine W.seq (W.ops (WO.p (by simp; rfl) (WO.nil ?_)))
  refine W.seq (W.seq (W.ops ?_))
  refine WO.p (by simp; rfl) ?_
  refine WO.p (by simp; rfl) ?_
  refine WO.p (by simp; rfl) (WO.nil ?_)
  by_cases hlen : 300 < l.length
  · refine W.cond (z := true) (by simp; omega) ?_
    refine W.seq (W.ops ?_)
    refine WO.call (g := 5) (gs := []) (by simp) (awakeC.mono ?_)
    rintro r B ⟨rfl, rfl⟩
    refine WO.p (by simp; rfl) (WO.nil (W.ret ?_))
    exact ⟨_, by simp [resOf]; rfl, rfl⟩
  have hl : l.length ≤ 300 := by omega
  refine W.cond (z := false) (by simp; omega) (W.skip ?_)
  -- the four calls
  refine W.seq (W.ops ?_)
  refine WO.p (by simp; rfl) ?_
  refine WO.call (g := 6) (gs := [.slice b1 l.length c1]) (by simp) ((rightLinear hl fun B _ => hv.ints B).mono ?_)
  intro r1 B1 h1
  obtain ⟨v1, o1, rfl, f1, p1, x1⟩ := h1.uni
  obtain ⟨C1, s1, y1, n1, w1⟩ := var_new f1
  refine WO.p (by simp; rfl) ?_
  refine WO.p (v := .agg #[v1]) (by simp [partA, nthV]) ?_
  refine WO.p (v := .int .i64 (if okOrd l then 0 else 1)) (by simp [nthV]) ?_
  refine WO.n (by simp; exact ⟨rfl, rfl⟩) ?_
  refine WO.e (v := undef) (A1 := C1) (by simp [Value.cells]; simp [s1]) ?_
  refine WO.p (by simp; rfl) (WO.nil ?_)
  refine W.seq (W.ops ?_)
  refine WO.p (by simp; rfl) ?_
  refine WO.call (g := 7) (gs := [.slice b1 l.length c1]) (by simp) ((balancedC hl hv).mono ?_)
  intro r2 B2 h2
  obtain ⟨v2, o2, rfl, f2, p2, x2⟩ := h2.uni
  obtain ⟨C2, s2, y2, n2, w2⟩ := var_new f2
  refine WO.p (by simp; rfl) ?_
  refine WO.p (v := .agg #[v2]) (by simp [partA, nthV]) ?_
  refine WO.p (v := .int .i64 (if okOrd l then 0 else 1)) (by simp [nthV]) ?_
  refine WO.n (by simp; exact ⟨rfl, rfl⟩) ?_
  refine WO.e (v := undef) (A1 := C2) (by simp [Value.cells]; simp [s2]) ?_
  refine WO.p (by simp; rfl) (WO.nil ?_)
  refine W.seq (W.ops ?_)
  refine WO.p (by simp; rfl) ?_
  refine WO.call (g := 8) (gs := [.slice b1 l.length c1]) (by simp) ((refRightLinear hl fun B _ => hv.ints B).mono ?_)
  intro r3 B3 h3
  obtain ⟨v3, o3, rfl, f3, p3, x3⟩ := h3.uni
  obtain ⟨C3, s3, y3, n3, w3⟩ := var_new f3
  refine WO.p (by simp; rfl) ?_
  refine WO.p (v := .agg #[v3]) (by simp [partA, nthV]) ?_
  refine WO.p (v := .int .i64 (if okOrd l then 0 else 1)) (by simp [nthV]) ?_
  refine WO.n (by simp; exact ⟨rfl, rfl⟩) ?_
  refine WO.e (v := undef) (A1 := C3) (by simp [Value.cells]; simp [s3]) ?_
  refine WO.p (by simp; rfl) (WO.nil ?_)
  refine W.seq (W.ops ?_)
  refine WO.p (by simp; rfl) ?_
  refine WO.call (g := 9) (gs := [.slice b1 l.length c1]) (by simp) ((refBalancedC hl hv).mono ?_)
  intro r4 B4 h4
  obtain ⟨v4, o4, rfl, f4, p4, x4⟩ := h4.uni
  obtain ⟨C4, s4, y4, n4, w4⟩ := var_new f4
  refine WO.p (by simp; rfl) ?_
  refine WO.p (v := .agg #[v4]) (by simp [partA, nthV]) ?_
  refine WO.p (v := .int .i64 (if okOrd l then 0 else 1)) (by simp [nthV]) ?_
  refine WO.n (by simp; exact ⟨rfl, rfl⟩) ?_
  refine WO.e (v := undef) (A1 := C4) (by simp [Value.cells]; simp [s4]) ?_
  refine WO.p (by simp; rfl) (WO.nil ?_)
  -- what lies in the four variables at the end
  have m1 : B1.next ≤ C1.next := y1.1
  have m2 : C1.next ≤ B2.next := x2.1
  have m3 : C2.next ≤ B3.next := x3.1
  have m4 : C3.next ≤ B4.next := x4.1
  have e14 : Ext C1 C4 := x2.trans (y2.trans (x3.trans (y3.trans (x4.trans y4))))
  have e24 : Ext C2 C4 := x3.trans (y3.trans (x4.trans y4))
  have e34 : Ext C3 C4 := x4.trans y4
  have q1 := w1.ext e14 n1
  have q2 := w2.ext e24 n2
  have q3 := w3.ext e34 n3
  have k1 : Buf C4 3 34 v1 _ _ o1 := (f1.ext y1).ext e14
  have k2 : Buf C4 3 34 v2 _ _ o2 := (f2.ext y2).ext e24
  have k3 : Buf C4 3 34 v3 _ _ o3 := (f3.ext y3).ext e34
  have k4 : Buf C4 3 34 v4 _ _ o4 := f4.ext y4
  generalize hn : (if okOrd l then 2 * l.length - 1 else 0) = n at k1 k2 k3 k4
  generalize hc : (if okOrd l then rl l else []) = cs at k1 k3
  generalize hd : (if okOrd l then bal l.length 0 l else []) = ds at k2 k4
  generalize he : (if okOrd l = true then (0 : Int) else 1) = e
  have hnb : n < 2 ^ 39 := by rw [← hn]; split <;> omega
  have ic : ints cs = true := by rw [← hc]; split <;> first | exact ints_append (leafs_ints _) (inner_ints _ _) | rfl
  have id' : ints ds = true := by rw [← hd]; split <;> first | exact bal_ints _ _ _ | rfl
  have lc : cs.length = n * 3 := by rw [← hc, ← hn]; split <;> first | exact rl_length l | rfl
  have ld : ds.length = n * 3 := by rw [← hd, ← hn]; split <;> first | exact bal_length _ _ _ (Nat.le_refl _) | rfl
  refine W.seq (W.ops ?_)
  refine WO.p (by simp; rfl) ?_
  refine WO.p (by simp; rfl) ?_
  refine WO.p (v := .bool true) (by simp) ?_
  refine WO.p (by simp; rfl) ?_
  refine WO.cons (v := .int .i64 e) (A1 := C4) (by simp) (fun cf => by simp [opR, opP, andP]) ?_
  refine WO.cons (v := .int .i64 e) (A1 := C4) (by simp) (fun cf => by simp [opR, opP, andP]) ?_
  refine WO.cons (v := .bool true) (A1 := C4) (by simp) (fun cf => by simp [opR, opP, andP]) ?_
  refine WO.p (v := .bool true) (by simp) ?_
  refine WO.p (by simp; rfl) ?_
  refine WO.cons (v := .agg #[v1]) (A1 := C4) (by simp) (fun cf => by simp [opR, opRd, andP, AH.loadC, AH.loadN, q1.load]) ?_
  refine WO.cons (v := .agg #[v3]) (A1 := C4) (by simp) (fun cf => by simp [opR, opRd, andP, AH.loadC, AH.loadN, q3.load]) ?_
  refine WO.callG (g := 10) (gs := [.agg #[v1], .agg #[v3]]) (by simp) rfl (by simp) ((sameVtree k1 k3 ic hnb lc).mono ?_)
  rintro r D ⟨rfl, z1⟩
  refine WO.p (v := .bool true) (by simp) ?_
  refine WO.p (by simp; rfl) ?_
  refine WO.cons (v := .agg #[v2]) (A1 := D) (by simp) (fun cf => by simp [opR, opRd, andP, AH.loadC, AH.loadN, (q2.ext z1 (by have := y2.1; have := e24.1; omega)).load]) ?_
  refine WO.cons (v := .agg #[v4]) (A1 := D) (by simp) (fun cf => by simp [opR, opRd, andP, AH.loadC, AH.loadN, (w4.ext z1 n4).load]) ?_
  refine WO.callG (g := 10) (gs := [.agg #[v2], .agg #[v4]]) (by simp) rfl (by simp) ((sameVtree (k2.ext z1) (k4.ext z1) id' hnb ld).mono ?_)
  rintro r E ⟨rfl, z2⟩
  refine WO.p (v := .bool true) (by simp) ?_
  refine WO.p (by simp; rfl) ?_
  refine WO.callG (g := 5) (gs := []) (by simp) rfl (by simp) (awakeC.mono ?_)
  rintro r B ⟨rfl, rfl⟩
  refine WO.p (v := .bool true) (by simp) ?_
  refine WO.p (by simp; rfl) (WO.nil (W.ret ?_))
  exact ⟨_, by simp [resOf]; rfl, rfl⟩
end Go.Proofs.AM.I28
