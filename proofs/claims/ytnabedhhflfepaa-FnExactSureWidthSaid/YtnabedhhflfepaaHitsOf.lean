/-
  The hits of pushes, the program's.
  Conditions: the board and the pushes are right.
-/
import Derived.Test.YtnabedhhflfepaaStage2
import Derived.Test.YtnabedhhflfepaaAt
import Derived.Deep.RegionHeld3
namespace Go.Proofs.Ytnabedhhflfepaa
open Go.RowKit
set_option linter.unusedSimpArgs false
set_option linter.unusedVariables false

def hitQp (xs : List Pc) (p : Pu) : Q4 := ⟨p.t, idxOf (atC p.x p.y) xs, p.s, -1⟩
theorem bx4_below {w w1 : World} {b : Nat} {v0 v1 v2 v3 : Value} (hb : Below w.heap.size w w1) (h : w.cell? ⟨b, 0, none⟩ = some v0 ∧ w.cell? ⟨b, 1, none⟩ = some v1 ∧ w.cell? ⟨b, 2, none⟩ = some v2 ∧ w.cell? ⟨b, 3, none⟩ = some v3) :
    w1.cell? ⟨b, 0, none⟩ = some v0 ∧ w1.cell? ⟨b, 1, none⟩ = some v1 ∧ w1.cell? ⟨b, 2, none⟩ = some v2 ∧ w1.cell? ⟨b, 3, none⟩ = some v3 :=
  ⟨cell_on hb h.1, cell_on hb h.2.1, cell_on hb h.2.2.1, cell_on hb h.2.2.2⟩
theorem bx4_grown {w w1 : World} {b : Nat} {r : Option Nat} {v0 v1 v2 v3 : Value} (hg : w.grownBy w1 r) (hne : r ≠ some b) (h : w.cell? ⟨b, 0, none⟩ = some v0 ∧ w.cell? ⟨b, 1, none⟩ = some v1 ∧ w.cell? ⟨b, 2, none⟩ = some v2 ∧ w.cell? ⟨b, 3, none⟩ = some v3) :
    w1.cell? ⟨b, 0, none⟩ = some v0 ∧ w1.cell? ⟨b, 1, none⟩ = some v1 ∧ w1.cell? ⟨b, 2, none⟩ = some v2 ∧ w1.cell? ⟨b, 3, none⟩ = some v3 :=
  ⟨hg.cell h.1 (Ne.symm hne), hg.cell h.2.1 (Ne.symm hne), hg.cell h.2.2.1 (Ne.symm hne), hg.cell h.2.2.2 (Ne.symm hne)⟩
set_option maxRecDepth 100000 in
set_option maxHeartbeats 2000000 in
theorem hitsOf_I (b : Nat) (wi hi : Int) (a : Option Addr) (c : Nat) (xs : List Pc) (al : Option Addr) (cl : Nat) (ps : List Pu) (w : World) (hb : BdA w b wi hi a xs.length c) (h : SlA Pc.enc 5 w a xs) (hp : SlA Pu.enc 4 w al ps) (hm : ps.length ≤ 1048576) (okp : ∀ p ∈ ps, p.Ok) :
    Calls Try.prog 66 #[.pointer (some ⟨b, 0, none⟩), .slice al ps.length cl] w (ResR Q4.e64 4 153 w (ps.map (hitQp xs))) := by
  have HA := hid (fun W (hB : Below w.heap.size w W) x y => at_I b wi hi a c xs x y W (hb.below hB hb.lt) (h.below hB))
  obtain ⟨i0, hi0, hz0, hz1', hz2'⟩ := info_parts (show (Try.prog.info? 153).map (fun i => (i.zero, i.size, i.bytes)) = some (some (.agg #[.int .i64 0, .int .i64 0, .int .i64 0, .int .i64 0]), 4, 32) by kernel_rfl)
  unfold ResR
  rw [List.length_map]
  have sa := hp.small
  go_enter Try.func66, Try.ntmps66
  go_wp2_with fail
  go_loopw [5, 11] (fun o i wr => ∃ (k : Nat) (A : Option Addr) (c1 : Nat), k ≤ ps.length ∧ i = .int .i64 k ∧ o = .slice A k c1 ∧ wr.ownsRow w.heap.size 153 4 (.slice A k c1) k (((ps.take k).map (hitQp xs)).flatMap Q4.e64) ∧ Below w.heap.size w wr) (fun _ i _ => ps.length - (intOf i).toNat)
  case atStart => exact ⟨0, _, _, Nat.zero_le _, rfl, rfl, by simpa using World.ownsRow_lit w #[] 0 (Nat.le_refl _) (by simp [maxLen]) (by simp), (Below.refl _ _).alloc (Nat.le_refl _) _⟩
  case round =>
    obtain ⟨k, A, c1, hk, rfl, rfl, own, hbl⟩ := hrel
    obtain ⟨V, hV⟩ : ∃ V, V = wr := ⟨_, rfl⟩
    subst hV
    by_cases hlt : k < ps.length
    · obtain ⟨b1, o1, rfl, hb1, hc1⟩ := (hp.below hbl).cells (by omega)
      have e1 : ps[k]? = some ps[k] := List.getElem?_eq_getElem hlt
      have hpo := okp _ (List.getElem_mem hlt)
      have HP := hid e1
      clear e1
      generalize ps[k] = p at *
      obtain ⟨_, _, _, _, s0, s1, t0, t1⟩ := hpo
      have f0 : V.cell? ⟨b1, o1 + k * 4, none⟩ = some (.int .i8 p.x) := hc1 k _ HP.out 0 _ rfl
      have f1 : V.cell? ⟨b1, o1 + k * 4 + 1, none⟩ = some (.int .i8 p.y) := hc1 k _ HP.out 1 _ rfl
      have f2 : V.cell? ⟨b1, o1 + k * 4 + 2, none⟩ = some (.int .i8 p.s) := hc1 k _ HP.out 2 _ rfl
      have f3 : V.cell? ⟨b1, o1 + k * 4 + 3, none⟩ = some (.int .i16 p.t) := hc1 k _ HP.out 3 _ rfl
      have wt : IntKind.i64.wrap p.t = p.t := IntWalk.i64_in _ (by omega)
      have ws : IntKind.i64.wrap p.s = p.s := IntWalk.i64_in _ (by omega)
      have hz := hbl.size
      obtain ⟨W1, hW1⟩ : ∃ W, W = V.alloc (.cells #[.int .i8 p.x, .int .i8 p.y, .int .i8 p.s, .int .i16 p.t] 60) := ⟨_, rfl⟩
      have B1 : Below V.heap.size V W1 := by rw [hW1]; exact (Below.refl _ _).alloc (Nat.le_refl _) _
      have z1 : W1.heap.size = V.heap.size + 1 := by rw [hW1]; simp
      have hS0 : W1.cell? ⟨V.heap.size, 0, none⟩ = some (.int .i8 p.x) ∧ W1.cell? ⟨V.heap.size, 1, none⟩ = some (.int .i8 p.y) ∧ W1.cell? ⟨V.heap.size, 2, none⟩ = some (.int .i8 p.s) ∧ W1.cell? ⟨V.heap.size, 3, none⟩ = some (.int .i16 p.t) := by
        rw [hW1]; exact ⟨by simp [go_sem], by simp [go_sem], by simp [go_sem], by simp [go_sem]⟩
      have HS0 := hid hS0
      have HO := hid own
      have HBW := hid (below_of hbl hz B1)
      have HO1 := hid (own_step own B1)
      have agp : (Value.slice A k c1).ownBlock ≠ some V.heap.size := fun e => by have := (own.lt _ e).2; omega
      have hN6 : k + 1 ≤ maxLen := by unfold maxLen; omega
      have hN7 : (k + 1) * 32 ≤ 140737488355328 := by omega
      clear own hc1 hS0 hbl B1
      have hq : ∀ W2 : World, V.heap.size ≤ W2.heap.size → True := fun _ _ => trivial
      obtain ⟨iv, hiv⟩ : ∃ iv, idxOf (atC p.x p.y) xs = iv := ⟨_, rfl⟩
      have HIV := hid hiv
      have HAT := hid (fun W hB => HA.out W hB p.x p.y)
      rw [hiv] at HAT
      clear hiv hq
      go_wp2_with fail
      rw [← hW1]
      clear hW1 f0 f1 f2 f3
      have hS1 := HS0.out
      go_region_held3 (fun w' => w'.cell? ⟨V.heap.size, 0, none⟩ = some (.int .i8 p.x) ∧ w'.cell? ⟨V.heap.size, 1, none⟩ = some (.int .i8 p.y) ∧ w'.cell? ⟨V.heap.size, 2, none⟩ = some (.int .i8 p.s) ∧ w'.cell? ⟨V.heap.size, 3, none⟩ = some (.int .i16 p.t))
        (first | exact bx4_below ((Below.refl _ _).drew) hS1 | exact bx4_below hb2 (by assumption) | exact bx4_below ((Below.refl _ _).alloc (Nat.le_refl _) _) (by assumption) | exact bx4_grown hgrow agp (by assumption))
        (first
          | (go_at_call 47; refine (HAT.out _ (HBW.out.trans (((Below.refl _ _).drew).mono (by omega)))).mono ?_; rintro e w1 ⟨rfl, hb2⟩; have HB2 := hid (HBW.out.trans ((((Below.refl W1.heap.size W1).drew).trans hb2).mono HBW.out.size)); have HO2 := hid (own_step (own_step HO1.out ((Below.refl _ _).drew)) hb2))
          | (refine step_append_lies _ (by rfl) _ _ _ (by rfl) w.heap.size 153 i0 _ 4 32 Try.underlying123 hi0 hz0 hz1' hz2' rfl (by omega) (.slice A k c1) k (((ps.take k).map (hitQp xs)).flatMap Q4.e64) (by rfl) (HO2.out.alloc _)
                  ⟨w1.heap.size, 0, none⟩ 1 1 [.int .i64 p.t, .int .i64 iv, .int .i64 p.s, .int .i64 (-1)] (by rfl) (by rfl) (World.news_of_block (cs := #[.int .i64 p.t, .int .i64 iv, .int .i64 p.s, .int .i64 (-1)]) (t := 153) (fr := (0, 0)) (heap_alloc_new w1 _)) (by simp [Value.oneCell'])
                  (by omega) hN6 hN7 (by have := HB2.out.size; simp; omega) (w1.heap.size + 1) (by simp) ?_; intro gg cap w3 hown3 hgrow hat hlt3))
      have HOW := hid hown3
      have HBF := hid ((HB2.out.alloc HB2.out.size _).grown hgrow (by have := HB2.out.size; simp; omega) (fun q e => (HO2.out.lt q e).1))
      clear hown3 hgrow hat
      go_wp2_with fail
      refine ⟨⟨k + 1, some ⟨gg, 0, none⟩, cap, by omega, by go_num, rfl, ?_, HBF.out⟩, by simp [intOf]; omega⟩
      rw [List.take_add_one, HP.out]
      have := HOW.out
      simpa [hitQp, Q4.e64, HIV.out] using this
    · obtain rfl : k = ps.length := by omega
      rw [List.take_length] at own
      have HO := hid own
      clear own
      go_wp2_with fail
      go_ret
      exact ⟨A, c1, rfl, hbl, HO.out⟩
end Go.Proofs.Ytnabedhhflfepaa
