/- For every vtree that the reference finds valid, the blocks below an inner node are those below its left child followed by those below its right child; no condition. -/
import Derived.Test.YticedbngmmcbjaaKd5
import Derived.Test.YticedbngmmcbjaaRows
import Derived.WalkKit
import Derived.ProofKit
import Derived.OpenShut
import Derived.ShutString
import Derived.ChangeOld
import Derived.Below
import Derived.Carry
import Derived.SizedLaws
set_option linter.all false
namespace Go.Proofs.Yticedbngmmcbjaa
open Go Go.Proofs Go.Proofs.AM Go.ChangeShapes Go.WideShapes Go.ChangeAt Go.RowKit
set_option linter.unusedSimpArgs false
set_option linter.unusedVariables false

theorem own : ownKnob Try.prog.godebug = none := by kernel_rfl
theorem laidOut : laidOutB Try.prog = true := by kernel_rfl

/-- A call over the heap of lists. -/
theorem wc_of_wcl {M : Old} {F : Tbl} {g : Nat} {args : List Value} (h : LM.WCL M F g args ⟨0, fun _ => .dead⟩ fun r _ => r = .bool true) : WC M F g args ⟨0, .nil⟩ fun r _ => r = .bool true :=
  (h _ LM.HR.start).mono fun r A' ⟨_, _, h⟩ => h

theorem okWide_agg {P : Program} {w : World} {base : Nat} {t : TypeId} {fs : Array Field} {v : Value} (ht : P.underlying t = some (.struct fs)) (h : Value.okWide P w .any base t v) : ∃ cs : List Value, v = .agg cs.toArray := by
  simp only [Value.okWide, ht] at h
  obtain ⟨cs, rfl, _⟩ := h
  exact ⟨cs.toList, by simp⟩

/-- A vtree that came in. -/
theorem arg_vtree {M : Old} {f : Nat} {us : List Value} {d : Dat} (h : RdD M (f + 4) (.struct 1 [(0, 1, .slice 3 24 (.struct 3 [(0, 1, .int .i64), (1, 1, .int .i64), (2, 1, .int .i64)]))]) us d) : ∃ v ns, us = [v] ∧ (∀ L, I28.Nodes M L v ns) ∧ ns.length < 2 ^ 60 := by
  simp only [RdD] at h
  obtain ⟨l, rfl, h1, h2, h3⟩ := h
  match us, h1, l, h2, h3 with
  | [v], _, [x], _, h3 =>
    have h4 := h3 0 0 1 _ x rfl rfl
    simp only [List.drop_zero, List.take_succ_cons, List.take_zero] at h4
    rcases h4 with ⟨h1, h2⟩ | ⟨h1, h2⟩ | ⟨b, o, cap, l, h1, h2, h3, h4, h5, h6⟩
    · simp only [List.cons.injEq, and_true] at h1
      subst h1
      exact ⟨_, [], rfl, fun L => ⟨none, 0, rfl, fun i x hx => by simp at hx⟩, by decide⟩
    · simp only [List.cons.injEq, and_true] at h1
      subst h1
      exact ⟨_, [], rfl, fun L => ⟨_, _, rfl, fun i x hx => by simp at hx⟩, by decide⟩
    · simp only [List.cons.injEq, and_true] at h1
      subst h1
      have key : ∀ i, i < l.length → ∃ n : I28.VN, ∀ k v, n.cells[k]? = some v → M b (o + (i * 3 + k)) = some v := by
        intro i hi
        obtain ⟨cs', h7, h8, m, _, h9, h10, h11⟩ := h6 i _ (List.getElem?_eq_getElem hi)
        have h10 : m.length = 3 := h10
        match cs', h7, m, h10, h8, h11 with
        | [c0, c1, c2], _, [d0, d1, d2], _, h8, h11 =>
          obtain ⟨n0, e0, _⟩ := h11 0 0 1 _ d0 rfl rfl
          obtain ⟨n1, e1, _⟩ := h11 1 1 1 _ d1 rfl rfl
          obtain ⟨n2, e2, _⟩ := h11 2 2 1 _ d2 rfl rfl
          simp at e0 e1 e2
          subst e0 e1 e2
          exact ⟨⟨n0, n1, n2⟩, h8⟩
      obtain ⟨ns, hz1, hz2⟩ := choose_list _ key
      have hb : reachBytes < 2 ^ 47 := by decide
      refine ⟨_, ns, rfl, fun L => ⟨_, cap, by rw [hz1], fun i x hx => ⟨_, rfl, ?_⟩⟩, by omega⟩
      have h7 := hz2 i x hx
      rw [LM.addA_even]
      have ld : ∀ k v, x.cells[k]? = some v → L.load M ⟨2 * b + 1, o + (i * 3 + k), none⟩ = some v := fun k v hk => by rw [LM.load_odd]; exact h7 k v hk
      have l0 := ld 0 _ rfl
      have l1 := ld 1 _ rfl
      have l2 := ld 2 _ rfl
      show L.loadN M (2 * b + 1) (o + i * 3) 3 = _
      simp only [LM.n_loadN1, LM.n_loadN0]
      rw [show o + i * 3 = o + (i * 3 + 0) by omega, l0, show o + (i * 3 + 0) + 1 = o + (i * 3 + 1) by omega, l1, show o + (i * 3 + 1) + 1 = o + (i * 3 + 2) by omega, l2]
      rfl

set_option maxRecDepth 100000 in
theorem below_lifted (os : Os) (started : os.Started) (H : Type) (enc : TypeId × Value → H) :
    ReturnsInHanded {} Try.checked os 4 .any (Rows.vtreeBelowSpec.pre6 enc Try.prog Try.f4 Rows.vtreeBelowRow.domain false) (Rows.vtreeBelowSpec.post enc Try.prog Try.f4 false true false false) := by
  refine returnsInHanded_of_change_sized (C := Try.checked) own started (by kernel_rfl) Try.func4
    (ChangeSpec.witness6 (enc := enc) (C := Try.checked) false ⟨#[], #[.agg #[.slice none 0 0]], []⟩ 8 (by kernel_rfl) (by kernel_rfl) (by kernel_rfl) (by kernel_rfl)) ?_
  intro W base args ds gs before hval0 hW hcnd hsz0 _
  have hsz : (DataW.weightsEach Try.prog (Try.f4.params.toList ++ Rows.vtreeBelowSpec.plain.varTypes Try.prog) (ds ++ gs)).all (· ≤ reachBytes) = true := hsz0
  have hval : ∀ (j : Nat) t v, Try.f4.params[j]? = some t → args[j]? = some v → Value.okWide Try.prog W .any base t v := hval0
  have hW' := hW
  obtain ⟨p, q, hA0, hV, rfl, hfz, hnd⟩ := hW
  have hA : DataW.TrodAll enc Try.prog W 0 (fun _ => true) true Try.f4.params.toList args.toList ds p := hA0
  rw [Try.params4] at hA hval hsz
  obtain ⟨v0, vs0, d0, ds0, p0, q0, hargs, rfl, rfl, h0, r0⟩ := trodAll_cons hA
  obtain ⟨rfl, rfl, rfl⟩ := trodAll_nil r0
  obtain rfl : args = #[v0] := by cases args; simp_all
  obtain ⟨rfl, rfl⟩ := trodVars_none hV
  obtain ⟨cs0, rfl⟩ := okWide_agg Try.underlying26 (hval 0 26 v0 rfl rfl)
  have k0 := h0
  have lt0 : ∀ x ∈ p0, x.block < W.heap.size := by obtain ⟨m, hm⟩ := k0; exact DataW.trod_lt m _ _ _ hm
  obtain ⟨u, ns, hu, hns, hlen⟩ : ∃ u ns, VR (fun _ => none) (.agg #[u]) (.agg cs0.toArray) ∧ (∀ L, I28.Nodes (oldOf W) L u ns) ∧ ns.length < 2 ^ 60 := by
    obtain ⟨fuel, hf⟩ := h0
    have hf' : DataW.trod enc Try.prog W 0 (fun _ => true) true fuel 26 cs0 = some (d0, p0) := by simpa [Value.cells] using hf
    obtain ⟨us, d, h1, h2⟩ := rd_of_trod 4 26 (.struct 1 [(0, 1, .slice 3 24 (.struct 3 [(0, 1, .int .i64), (1, 1, .int .i64), (2, 1, .int .i64)]))]) fuel _ (d0, p0) (by kernel_rfl) hf' fun n hn => by
      have := List.all_eq_true.1 hsz n (DataW.weights_mem_each (j := 0) rfl rfl n hn)
      simpa using this
    obtain ⟨v, ns, rfl, h3, h4⟩ := arg_vtree h2
    exact ⟨v, ns, .mkAgg (by simpa using liftL_VRL h1), h3, h4⟩
  clear hA0 hval0 hsz0 hsz
  refine (start_calls I28.mix I28.ft_sound (cs := [.agg cs0.toArray]) (.cons hu .nil) (wc_of_wcl (I28.lawBelow hns hlen))).mono fun e W' ⟨he, bel⟩ => ?_
  subst he
  exact ⟨_, rfl, _, _, _, [], _, [], hW', trodAll_mk1 (shut_bool Try.underlying4 _), trodAll_cons_mk (Below.trod laidOut (by kernel_rfl) (of_decide_eq_true (by kernel_rfl)) k0 bel lt0) trodAll_mk0, rfl, bel.frame _, fun h => by cases h⟩

theorem below_over : Rows.vtreeBelowRow.holds Try.pinned (OpenSpec.ofChange Rows.vtreeBelowSpec) :=
  OpenClaim.holds_of_wide 4 Try.f4 rfl rfl rfl rfl rfl rfl rfl ⟨rfl, rfl, rfl, rfl, rfl⟩ rfl rfl rfl rfl rfl (by kernel_rfl) Try.func4 (by kernel_rfl)
    (of_decide_eq_true (by kernel_rfl)) (by unfold Func.isWrapper; first | (rw [if_pos (by decide +kernel)]; kernel_rfl) | (rw [if_neg (by decide +kernel)]; exact ⟨rfl, rfl⟩))
    (fun os started H enc _ => below_lifted os started H enc)

/-- The law: in every valid vtree the blocks below an inner node are those below its left child, then those below its right child. -/
theorem vtreeBelow_holds : Rows.VtreeBelowSaid := below_over
#print axioms vtreeBelow_holds
end Go.Proofs.Yticedbngmmcbjaa
