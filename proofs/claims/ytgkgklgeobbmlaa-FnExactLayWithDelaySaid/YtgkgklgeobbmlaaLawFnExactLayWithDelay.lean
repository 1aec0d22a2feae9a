/-
  The given statement FnExactLayWithDelay: for every input the law returns true, and each argument reads behind the call as it read before.
  Conditions: none beyond the statement's own.
-/
import Derived.Test.YtgkgklgeobbmlaaRows
import Derived.Test.YtgkgklgeobbmlaaCFnExactLayWithDelay
import Derived.Test.YtgkgklgeobbmlaaData
import Derived.WalkKit
import Derived.ProofKit
import Derived.OpenShut
import Derived.ShutString
import Derived.ChangeOld
import Derived.Below
import Derived.SizedLaws
import Derived.Lib.SmallJoins
namespace Go.Proofs.Ytgkgklgeobbmlaa.fnExactLayWithDelay
open Go.ChangeShapes Go.WideShapes Go.ChangeAt Go.RowKit Go.Joins
open Go.ChangeMaps (open_string shut_string)
set_option linter.unusedVariables false
theorem own : ownKnob Try.prog.godebug = none := by kernel_rfl
theorem laidOut : laidOutB Try.prog = true := by kernel_rfl
set_option maxRecDepth 100000 in
theorem lifted (os : Os) (started : os.Started) (H : Type) (enc : TypeId × Value → H) :
    ReturnsInHanded {} Try.checked os 6 .any (Rows.fnExactLayWithDelaySpec.pre6 enc Try.prog Try.f6 Rows.fnExactLayWithDelayRow.domain false) (Rows.fnExactLayWithDelaySpec.post enc Try.prog Try.f6 false true false false) := by
  refine returnsInHanded_of_change_sized (C := Try.checked) own started (by kernel_rfl) Try.func6
    (ChangeSpec.witness6 (enc := enc) (C := Try.checked) false ⟨#[], #[.agg #[.int .i8 0, .int .i8 0, .slice none 0 0], .agg Wy.z.enc.toArray, .int .i64 0], []⟩ 8 (by kernel_rfl) (by kernel_rfl) (by kernel_rfl) (by kernel_rfl)) ?_
  intro W base args ds gs before hval0 hW hcnd hsz0 _
  have hsz : (DataW.weightsEach Try.prog (Try.f6.params.toList ++ Rows.fnExactLayWithDelaySpec.plain.varTypes Try.prog) (ds ++ gs)).all (· ≤ reachBytes) = true := hsz0
  have hval : ∀ (j : Nat) t v, Try.f6.params[j]? = some t → args[j]? = some v → Value.okWide Try.prog W .any base t v := hval0
  have hW' := hW
  obtain ⟨p, q, hA0, hV, rfl, hfz, hnd⟩ := hW
  have hA : DataW.TrodAll enc Try.prog W 0 (fun _ => true) true Try.f6.params.toList args.toList ds p := hA0
  rw [Try.params6] at hA hval hsz
  obtain ⟨v0, vs0, d0, ds0, p0, q0, hargs, rfl, rfl, h0, r0⟩ := trodAll_cons hA
  obtain ⟨v1, vs1, d1, ds1, p1, q1, rfl, rfl, rfl, h1, r1⟩ := trodAll_cons r0
  obtain ⟨v2, vs2, d2, ds2, p2, q2, rfl, rfl, rfl, h2, r2⟩ := trodAll_cons r1
  obtain ⟨rfl, rfl, rfl⟩ := trodAll_nil r2
  obtain rfl : args = #[v0, v1, v2] := by cases args; simp_all
  obtain ⟨rfl, rfl⟩ := trodVars_none hV
  have k0 := h0
  have lt0 : ∀ x ∈ p0, x.block < W.heap.size := by obtain ⟨m, hm⟩ := k0; exact DataW.trod_lt m _ _ _ hm
  obtain ⟨b0, b1, b2, y0, y1, y2, m0, rfl, rfl, rfl, z0, z1, z2⟩ := open_agg3 Try.underlying25 (by kernel_rfl) (by kernel_rfl) (hval 0 25 v0 rfl rfl) h0
  obtain ⟨wi0, e0, _, wfa0⟩ := DataW.trod_int Try.underlying22 z0
  simp at e0
  subst e0
  obtain ⟨hi0, e1, _, wfb0⟩ := DataW.trod_int Try.underlying22 z1
  simp at e1
  subst e1
  obtain ⟨a0, len0, cap0, rfl⟩ : ∃ a len cap, b2 = .slice a len cap := by
    rcases Deep.open_slice Try.underlying23 z2 with ⟨hcs, _⟩ | ⟨a', l, c, m, q, D, Pl, hcs, _⟩ <;> (simp at hcs; exact ⟨_, _, _, hcs⟩)
  obtain ⟨hl0, hc0⟩ := open_sc_slice (ks := Pc.ks) (n := 4) (e := 106) (t := 23) Try.underlying23 (by kernel_rfl) (by kernel_rfl) (by decide) (⟨m0, z2⟩ : DataW.Trod enc Try.prog W 0 (fun _ => true) true 23 (.slice a0 len0 cap0) y2.1 y2.2)
  obtain ⟨l0, rfl, o0, s0⟩ := sla_of Pc.enc Pc.Ok (ks := Pc.ks) Pc.of hl0 hc0
  have k1 := h1
  have lt1 : ∀ x ∈ p1, x.block < W.heap.size := by obtain ⟨m, hm⟩ := k1; exact DataW.trod_lt m _ _ _ hm
  obtain ⟨cs1, rfl, hs1⟩ := okWide_struct Try.underlying28 (hval 1 28 v1 rfl rfl)
  obtain ⟨p1_, e1, o1⟩ : ∃ p : Wy, cs1.toList = p.enc ∧ p.Ok := by
    obtain ⟨fuel, hf⟩ := h1
    exact Wy.of _ (by rw [Array.length_toList, hs1]; kernel_rfl) (trod_sc 4 _ _ (by kernel_rfl) _ _ _ hf)
  obtain rfl : cs1 = p1_.enc.toArray := by rw [← e1]
  have k2 := h2
  have lt2 : ∀ x ∈ p2, x.block < W.heap.size := by obtain ⟨m, hm⟩ := k2; exact DataW.trod_lt m _ _ _ hm
  obtain ⟨x2, rfl, rfl, rfl, w2⟩ := open_int Try.underlying2 (hval 2 2 v2 rfl rfl) h2
  clear hA0 hval0 hsz0 hsz
  refine (law_FnExactLayWithDelay W wi0 hi0 (bounds_i8 wfa0).1 (bounds_i8 wfa0).2 (bounds_i8 wfb0).1 (bounds_i8 wfb0).2 a0 cap0 l0 o0 s0 p1_ o1 x2 (bounds_i64 w2).1 (bounds_i64 w2).2).mono fun e W' ⟨he, bel⟩ => ?_
  subst he
  exact ⟨_, rfl, _, _, _, [], _, [], hW', trodAll_mk1 (shut_bool Try.underlying4 _), (trodAll_cons_mk (Below.trod laidOut (by kernel_rfl) (of_decide_eq_true (by kernel_rfl)) k0 bel lt0) (trodAll_cons_mk (Below.trod laidOut (by kernel_rfl) (of_decide_eq_true (by kernel_rfl)) k1 bel lt1) (trodAll_cons_mk (Below.trod laidOut (by kernel_rfl) (of_decide_eq_true (by kernel_rfl)) k2 bel lt2) trodAll_mk0))), rfl, bel.frame _, fun h => by cases h⟩
theorem over : Rows.fnExactLayWithDelayRow.holds Try.pinned (OpenSpec.ofChange Rows.fnExactLayWithDelaySpec) :=
  OpenClaim.holds_of_wide 6 Try.f6 rfl rfl rfl rfl rfl rfl rfl ⟨rfl, rfl, rfl, rfl, rfl⟩ rfl rfl rfl rfl rfl (by kernel_rfl) Try.func6 (by kernel_rfl)
    (of_decide_eq_true (by kernel_rfl)) (by unfold Func.isWrapper; first | (rw [if_pos (by decide +kernel)]; kernel_rfl) | (rw [if_neg (by decide +kernel)]; exact ⟨rfl, rfl⟩))
    (fun os started H enc _ => lifted os started H enc)
end Go.Proofs.Ytgkgklgeobbmlaa.fnExactLayWithDelay
namespace Go.Proofs.Ytgkgklgeobbmlaa
/-- The given statement. -/
theorem fnExactLayWithDelay_holds : Rows.FnExactLayWithDelaySaid := fnExactLayWithDelay.over
#print axioms fnExactLayWithDelay_holds
end Go.Proofs.Ytgkgklgeobbmlaa
