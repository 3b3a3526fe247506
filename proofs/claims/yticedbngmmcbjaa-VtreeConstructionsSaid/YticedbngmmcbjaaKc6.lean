/- For every list of blocks both constructions of vtrees return what the reference defines, or the same error; no condition. -/
import Derived.Test.YticedbngmmcbjaaKc5
import Derived.Test.YticedbngmmcbjaaRows
import Derived.WalkKit
import Derived.ProofKit
import Derived.OpenShut
import Derived.ShutString
import Derived.ChangeOld
import Derived.Below
import Derived.Carry
import Derived.SizedLaws
set_option linter.all false
namespace Go.Proofs.Yticedbngmmcbjaa
open Go Go.Proofs Go.Proofs.AM Go.ChangeShapes Go.WideShapes Go.ChangeAt Go.RowKit
set_option linter.unusedSimpArgs false
set_option linter.unusedVariables false

theorem own : ownKnob Try.prog.godebug = none := by kernel_rfl
theorem laidOut : laidOutB Try.prog = true := by kernel_rfl

/-- A slice of ints that came in. -/
theorem arg_ints {M : Old} {f : Nat} {v : Value} {d : Dat} (h : RdD M (f + 2) (.slice 1 8 (.int .i64)) [v] d) : ∃ l, I28.Arg M v l := by
  simp only [RdD] at h
  rcases h with ⟨h1, h2⟩ | ⟨h1, h2⟩ | ⟨b, o, cap, l, h1, h2, h3, h4, h5, h6⟩
  · simp only [List.cons.injEq, and_true] at h1
    subst h1
    exact ⟨[], .inr ⟨none, 0, rfl, by decide, Nat.le_refl _, by decide, .inl ⟨rfl, rfl⟩⟩⟩
  · simp only [List.cons.injEq, and_true] at h1
    exact ⟨[], .inl ⟨h1, rfl⟩⟩
  · simp only [List.cons.injEq, and_true] at h1
    subst h1
    have key : ∀ i, i < l.length → ∃ n : Int, M b (o + i) = some (.int .i64 n) := by
      intro i hi
      obtain ⟨cs', h7, h8, n, h9, h10⟩ := h6 i _ (List.getElem?_eq_getElem hi)
      subst h9
      refine ⟨n, ?_⟩
      have := h8 0 _ rfl
      simpa using this
    obtain ⟨zs, hz1, hz2⟩ := choose_list _ key
    have hb : reachBytes < 2 ^ 47 := by decide
    exact ⟨zs, .inr ⟨_, cap, by rw [hz1], by omega, by omega, h4, .inr ⟨b, o, rfl, hz2⟩⟩⟩

set_option maxRecDepth 100000 in
theorem constructions_lifted (os : Os) (started : os.Started) (H : Type) (enc : TypeId × Value → H) :
    ReturnsInHanded {} Try.checked os 3 .any (Rows.vtreeConstructionsSpec.pre6 enc Try.prog Try.f3 Rows.vtreeConstructionsRow.domain false) (Rows.vtreeConstructionsSpec.post enc Try.prog Try.f3 false true false false) := by
  refine returnsInHanded_of_change_sized (C := Try.checked) own started (by kernel_rfl) Try.func3
    (ChangeSpec.witness6 (enc := enc) (C := Try.checked) false ⟨#[], #[.slice none 0 0], []⟩ 8 (by kernel_rfl) (by kernel_rfl) (by kernel_rfl) (by kernel_rfl)) ?_
  intro W base args ds gs before hval0 hW hcnd hsz0 _
  have hsz : (DataW.weightsEach Try.prog (Try.f3.params.toList ++ Rows.vtreeConstructionsSpec.plain.varTypes Try.prog) (ds ++ gs)).all (· ≤ reachBytes) = true := hsz0
  have hval : ∀ (j : Nat) t v, Try.f3.params[j]? = some t → args[j]? = some v → Value.okWide Try.prog W .any base t v := hval0
  have hW' := hW
  obtain ⟨p, q, hA0, hV, rfl, hfz, hnd⟩ := hW
  have hA : DataW.TrodAll enc Try.prog W 0 (fun _ => true) true Try.f3.params.toList args.toList ds p := hA0
  rw [Try.params3] at hA hval hsz
  obtain ⟨v0, vs0, d0, ds0, p0, q0, hargs, rfl, rfl, h0, r0⟩ := trodAll_cons hA
  obtain ⟨rfl, rfl, rfl⟩ := trodAll_nil r0
  obtain rfl : args = #[v0] := by cases args; simp_all
  obtain ⟨rfl, rfl⟩ := trodVars_none hV
  obtain ⟨a0, len0, cap0, rfl⟩ := okWide_slice Try.underlying22 (hval 0 22 v0 rfl rfl)
  have k0 := h0
  have lt0 : ∀ x ∈ p0, x.block < W.heap.size := by obtain ⟨m, hm⟩ := k0; exact DataW.trod_lt m _ _ _ hm
  obtain ⟨us, l, hus, harg⟩ : ∃ u l, VR (fun _ => none) u (.slice a0 len0 cap0) ∧ I28.Arg (oldOf W) u l := by
    obtain ⟨fuel, hf⟩ := h0
    obtain ⟨us, d, h1, h2⟩ := rd_of_trod 2 22 (.slice 1 8 (.int .i64)) fuel _ (d0, p0) (by kernel_rfl) hf fun n hn => by
      have := List.all_eq_true.1 hsz n (DataW.weights_mem_each (j := 0) rfl rfl n hn)
      simpa using this
    have h3 : us.length = 1 := (liftL_get h1).1
    match us, h3 with
    | [u], _ =>
      obtain ⟨l, hl⟩ := arg_ints h2
      obtain ⟨u', hu1, hu2⟩ := (liftL_get h1).2 0 _ rfl
      simp at hu1
      subst hu1
      exact ⟨u, l, lift_VR hu2, hl⟩
  clear hA0 hval0 hsz0 hsz
  refine (start_calls I28.mix I28.ft_sound (cs := [.slice a0 len0 cap0]) (.cons hus .nil) (I28.lawConstructions harg)).mono fun e W' ⟨he, bel⟩ => ?_
  subst he
  exact ⟨_, rfl, _, _, _, [], _, [], hW', trodAll_mk1 (shut_bool Try.underlying4 _), trodAll_cons_mk (Below.trod laidOut (by kernel_rfl) (of_decide_eq_true (by kernel_rfl)) k0 bel lt0) trodAll_mk0, rfl, bel.frame _, fun h => by cases h⟩

theorem constructions_over : Rows.vtreeConstructionsRow.holds Try.pinned (OpenSpec.ofChange Rows.vtreeConstructionsSpec) :=
  OpenClaim.holds_of_wide 3 Try.f3 rfl rfl rfl rfl rfl rfl rfl ⟨rfl, rfl, rfl, rfl, rfl⟩ rfl rfl rfl rfl rfl (by kernel_rfl) Try.func3 (by kernel_rfl)
    (of_decide_eq_true (by kernel_rfl)) (by unfold Func.isWrapper; first | (rw [if_pos (by decide +kernel)]; kernel_rfl) | (rw [if_neg (by decide +kernel)]; exact ⟨rfl, rfl⟩))
    (fun os started H enc _ => constructions_lifted os started H enc)

/-- The law: for every list, both constructions return what the reference defines. -/
theorem vtreeConstructions_holds : Rows.VtreeConstructionsSaid := constructions_over
#print axioms vtreeConstructions_holds
end Go.Proofs.Yticedbngmmcbjaa
