/-
  The given statement FnExactBestOrder: for every input the law returns true, and each argument reads behind the call as it read before.
  Conditions: none beyond the statement's own.
-/
import Derived.Test.YtgkgklgeobbmlaaRows
import Derived.Test.YtgkgklgeobbmlaaCFnExactBestOrder
import Derived.Test.YtgkgklgeobbmlaaData
import Derived.WalkKit
import Derived.ProofKit
import Derived.OpenShut
import Derived.ShutString
import Derived.ChangeOld
import Derived.Below
import Derived.SizedLaws
import Derived.Lib.SmallJoins
namespace Go.Proofs.Ytgkgklgeobbmlaa.fnExactBestOrder
open Go.ChangeShapes Go.WideShapes Go.ChangeAt Go.RowKit Go.Joins
open Go.ChangeMaps (open_string shut_string)
set_option linter.unusedVariables false
theorem own : ownKnob Try.prog.godebug = none := by kernel_rfl
theorem laidOut : laidOutB Try.prog = true := by kernel_rfl
set_option maxRecDepth 100000 in
theorem lifted (os : Os) (started : os.Started) (H : Type) (enc : TypeId × Value → H) :
    ReturnsInHanded {} Try.checked os 5 .any (Rows.fnExactBestOrderSpec.pre6 enc Try.prog Try.f5 Rows.fnExactBestOrderRow.domain false) (Rows.fnExactBestOrderSpec.post enc Try.prog Try.f5 false true false false) := by
  refine returnsInHanded_of_change_sized (C := Try.checked) own started (by kernel_rfl) Try.func5
    (ChangeSpec.witness6 (enc := enc) (C := Try.checked) false ⟨#[], #[.agg #[.int .i8 0, .int .i8 0, .slice none 0 0], .slice none 0 0], []⟩ 8 (by kernel_rfl) (by kernel_rfl) (by kernel_rfl) (by kernel_rfl)) ?_
  intro W base args ds gs before hval0 hW hcnd hsz0 _
  have hsz : (DataW.weightsEach Try.prog (Try.f5.params.toList ++ Rows.fnExactBestOrderSpec.plain.varTypes Try.prog) (ds ++ gs)).all (· ≤ reachBytes) = true := hsz0
  have hval : ∀ (j : Nat) t v, Try.f5.params[j]? = some t → args[j]? = some v → Value.okWide Try.prog W .any base t v := hval0
  have hW' := hW
  obtain ⟨p, q, hA0, hV, rfl, hfz, hnd⟩ := hW
  have hA : DataW.TrodAll enc Try.prog W 0 (fun _ => true) true Try.f5.params.toList args.toList ds p := hA0
  rw [Try.params5] at hA hval hsz
  obtain ⟨v0, vs0, d0, ds0, p0, q0, hargs, rfl, rfl, h0, r0⟩ := trodAll_cons hA
  obtain ⟨v1, vs1, d1, ds1, p1, q1, rfl, rfl, rfl, h1, r1⟩ := trodAll_cons r0
  obtain ⟨rfl, rfl, rfl⟩ := trodAll_nil r1
  obtain rfl : args = #[v0, v1] := by cases args; simp_all
  obtain ⟨rfl, rfl⟩ := trodVars_none hV
  have k0 := h0
  have lt0 : ∀ x ∈ p0, x.block < W.heap.size := by obtain ⟨m, hm⟩ := k0; exact DataW.trod_lt m _ _ _ hm
  obtain ⟨b0, b1, b2, y0, y1, y2, m0, rfl, rfl, rfl, z0, z1, z2⟩ := open_agg3 Try.underlying25 (by kernel_rfl) (by kernel_rfl) (hval 0 25 v0 rfl rfl) h0
  obtain ⟨wi0, e0, _, wfa0⟩ := DataW.trod_int Try.underlying22 z0
  simp at e0
  subst e0
  obtain ⟨hi0, e1, _, wfb0⟩ := DataW.trod_int Try.underlying22 z1
  simp at e1
  subst e1
  obtain ⟨a0, len0, cap0, rfl⟩ : ∃ a len cap, b2 = .slice a len cap := by
    rcases Deep.open_slice Try.underlying23 z2 with ⟨hcs, _⟩ | ⟨a', l, c, m, q, D, Pl, hcs, _⟩ <;> (simp at hcs; exact ⟨_, _, _, hcs⟩)
  obtain ⟨hl0, hc0⟩ := open_sc_slice (ks := Pc.ks) (n := 4) (e := 106) (t := 23) Try.underlying23 (by kernel_rfl) (by kernel_rfl) (by decide) (⟨m0, z2⟩ : DataW.Trod enc Try.prog W 0 (fun _ => true) true 23 (.slice a0 len0 cap0) y2.1 y2.2)
  obtain ⟨l0, rfl, o0, s0⟩ := sla_of Pc.enc Pc.Ok (ks := Pc.ks) Pc.of hl0 hc0
  have k1 := h1
  have lt1 : ∀ x ∈ p1, x.block < W.heap.size := by obtain ⟨m, hm⟩ := k1; exact DataW.trod_lt m _ _ _ hm
  obtain ⟨a1, len1, cap1, rfl⟩ := okWide_slice Try.underlying43 (hval 1 43 v1 rfl rfl)
  obtain ⟨hl1, hc1⟩ := open_sc_slice (ks := Wy.ks) (n := 4) (e := 28) Try.underlying43 (by kernel_rfl) (by kernel_rfl) (by decide) h1
  obtain ⟨l1, rfl, o1, s1⟩ := sla_of Wy.enc Wy.Ok (ks := Wy.ks) Wy.of hl1 hc1
  clear hA0 hval0 hsz0 hsz
  refine (law_FnExactBestOrder W wi0 hi0 (bounds_i8 wfa0).1 (bounds_i8 wfa0).2 (bounds_i8 wfb0).1 (bounds_i8 wfb0).2 a0 cap0 l0 o0 s0 a1 cap1 l1 o1 s1).mono fun e W' ⟨he, bel⟩ => ?_
  subst he
  exact ⟨_, rfl, _, _, _, [], _, [], hW', trodAll_mk1 (shut_bool Try.underlying4 _), (trodAll_cons_mk (Below.trod laidOut (by kernel_rfl) (of_decide_eq_true (by kernel_rfl)) k0 bel lt0) (trodAll_cons_mk (Below.trod laidOut (by kernel_rfl) (of_decide_eq_true (by kernel_rfl)) k1 bel lt1) trodAll_mk0)), rfl, bel.frame _, fun h => by cases h⟩
theorem over : Rows.fnExactBestOrderRow.holds Try.pinned (OpenSpec.ofChange Rows.fnExactBestOrderSpec) :=
  OpenClaim.holds_of_wide 5 Try.f5 rfl rfl rfl rfl rfl rfl rfl ⟨rfl, rfl, rfl, rfl, rfl⟩ rfl rfl rfl rfl rfl (by kernel_rfl) Try.func5 (by kernel_rfl)
    (of_decide_eq_true (by kernel_rfl)) (by unfold Func.isWrapper; first | (rw [if_pos (by decide +kernel)]; kernel_rfl) | (rw [if_neg (by decide +kernel)]; exact ⟨rfl, rfl⟩))
    (fun os started H enc _ => lifted os started H enc)
end Go.Proofs.Ytgkgklgeobbmlaa.fnExactBestOrder
namespace Go.Proofs.Ytgkgklgeobbmlaa
/-- The given statement. -/
theorem fnExactBestOrder_holds : Rows.FnExactBestOrderSaid := fnExactBestOrder.over
#print axioms fnExactBestOrder_holds
end Go.Proofs.Ytgkgklgeobbmlaa
