/-
  Which boards are valid; both the program's and the reference's.
  Conditions: the fields are in their kinds' ranges.
-/
import Derived.Test.YtemnglkenaklnaaSeen
namespace Go.Proofs.Ytemnglkenaklnaa
open Go.RowKit
set_option linter.unusedSimpArgs false
set_option linter.unusedVariables false

def okAt (wi hi : Int) (xs : List Pc) (k : Nat) : Bool := match xs[k]? with
  | some p => pcOk p && (cellIn p.x p.y wi hi && !((xs.take k).any (atC p.x p.y)))
  | none => true
def bdOk (wi hi : Int) (xs : List Pc) : Bool := inB wi 1 24 && (inB hi 1 24 && (decide (xs.length ≤ 200) && (List.range xs.length).all (okAt wi hi xs)))
theorem bdOk_true {wi hi : Int} {xs : List Pc} (h1 : inB wi 1 24 = true) (h2 : inB hi 1 24 = true) (h3 : xs.length ≤ 200) (h : ∀ j, j < xs.length → okAt wi hi xs j = true) : bdOk wi hi xs = true := by
  unfold bdOk
  rw [h1, h2, decide_eq_true h3]
  simpa using h
theorem bdOk_false {wi hi : Int} {xs : List Pc} {k : Nat} (hk : k < xs.length) (h : okAt wi hi xs k = false) : bdOk wi hi xs = false := by
  have : (List.range xs.length).all (okAt wi hi xs) = false := by
    rw [List.all_eq_false]
    exact ⟨k, List.mem_range.2 hk, by simp [h]⟩
  unfold bdOk
  simp [this]
theorem find_ne {xs : List Pc} {k : Nat} {p : Pc} (hp : xs[k]? = some p) : (idxOf (atC p.x p.y) xs != (k : Int)) = (xs.take k).any (atC p.x p.y) := by
  cases h : (xs.take k).any (atC p.x p.y) with
  | false => rw [idxOf_at h hp (by simp [atC])]; simp
  | true =>
    rw [bne_iff_ne]
    intro e
    have hk : k < xs.length := (List.getElem?_eq_some_iff.1 hp).1
    have : xs.any (atC p.x p.y) = true := by
      rw [List.any_eq_true] at h ⊢
      obtain ⟨q, h1, h2⟩ := h
      exact ⟨q, List.mem_of_mem_take h1, h2⟩
    obtain ⟨j, q, e2, h1, h2, h3⟩ := idxOf_some this
    have : j = k := by omega
    subst this
    rw [h] at h3
    cases h3
theorem below_ok {P : Nat → Prop} {k : Nat} (h : ∀ j, j < k → P j) (hk : P k) : ∀ j, j < k + 1 → P j := fun j hj => by
  rcases Nat.lt_or_ge j k with h1 | h1
  · exact h j h1
  · obtain rfl : j = k := by omega
    exact hk
set_option maxRecDepth 100000 in
set_option maxHeartbeats 400000 in
theorem ok_S (b : Nat) (wi hi : Int) (a : Option Addr) (c : Nat) (xs : List Pc) (w : World) (rw_ : -128 ≤ wi ∧ wi ≤ 127 ∧ -128 ≤ hi ∧ hi ≤ 127) (hb : BdA w b wi hi a xs.length c) (h : SlA Pc.enc 5 w a xs) (ok : ∀ p ∈ xs, p.Ok) :
    Calls Try.prog 33 #[.pointer (some ⟨b, 0, none⟩)] w fun e w' => e = .returned (.bool (bdOk wi hi xs)) ∧ Below w.heap.size w w' := by
  have sa := h.small
  have hbd := hb
  obtain ⟨g9, g0, g1, g2⟩ := hb
  obtain ⟨r0, r1, r2, r3⟩ := rw_
  by_cases e1 : inB wi 1 24 = true
  · by_cases e2 : inB hi 1 24 = true
    · have E1 := hid e1
      have E2 := hid e2
      by_cases e3 : 200 < xs.length
      · have : bdOk wi hi xs = false := by simp [bdOk]; omega
        rw [this]
        clear this
        go_enter Try.func33, Try.ntmps33
        go_wp2_with (go_at_call 54; refine (in_S _ _ _ _).mono ?_; rintro e w' ⟨rfl, rfl⟩)
        go_ret
        exact ⟨rfl, Below.refl _ _⟩
      · go_enter Try.func33, Try.ntmps33
        go_wp2_with (go_at_call 54; refine (in_S _ _ _ _).mono ?_; rintro e w' ⟨rfl, rfl⟩)
        clear e1 e2
        go_loopw [3] (fun i wr => ∃ k : Nat, k ≤ xs.length ∧ i = .int .i64 k ∧ (∀ j, j < k → okAt wi hi xs j = true) ∧ Below w.heap.size w wr) (fun i _ => xs.length - (intOf i).toNat)
        case atStart => exact ⟨0, Nat.zero_le _, rfl, fun j hj => by omega, Below.refl _ _⟩
        case round =>
          obtain ⟨k, hk, rfl, ht, hbl⟩ := hrel
          have k0 : wr.cell? ⟨b, 0, none⟩ = some (.int .i8 wi) := (hbl.cell (p := ⟨b, _, none⟩) g9).trans g0
          have k1 : wr.cell? ⟨b, 1, none⟩ = some (.int .i8 hi) := (hbl.cell (p := ⟨b, _, none⟩) g9).trans g1
          have k2 : wr.cell? ⟨b, 2, none⟩ = some (.slice a xs.length c) := (hbl.cell (p := ⟨b, _, none⟩) g9).trans g2
          have HT := hid ht
          clear ht
          by_cases hlt : k < xs.length
          · have hbw := hbd.below hbl g9
            have hsw := h.below hbl
            obtain ⟨b1, o1, rfl, hb1, hc1⟩ := hsw.cells (by omega)
            have e1 : xs[k]? = some xs[k] := List.getElem?_eq_getElem hlt
            have okp : xs[k].Ok := ok _ (List.getElem_mem hlt)
            have Hp := hid e1
            clear e1
            generalize xs[k] = p at *
            have f0 : wr.cell? ⟨b1, o1 + k * 5, none⟩ = some (.int .i8 p.x) := hc1 k _ Hp.out 0 _ rfl
            have f1 : wr.cell? ⟨b1, o1 + k * 5 + 1, none⟩ = some (.int .i8 p.y) := hc1 k _ Hp.out 1 _ rfl
            have f2 : wr.cell? ⟨b1, o1 + k * 5 + 2, none⟩ = some (.int .i8 p.k) := hc1 k _ Hp.out 2 _ rfl
            have f3 : wr.cell? ⟨b1, o1 + k * 5 + 3, none⟩ = some (.int .i8 p.t) := hc1 k _ Hp.out 3 _ rfl
            have f4 : wr.cell? ⟨b1, o1 + k * 5 + 4, none⟩ = some (.int .i8 p.d) := hc1 k _ Hp.out 4 _ rfl
            have hz := hbl.size
            have hbw' : b < wr.heap.size := by omega
            have Hs := hid (fun (x : Later wr) => piece_S p b1 (o1 + k * 5) x.w okp ((later_cell x _ _ hb1).trans f0) ((later_cell x _ _ hb1).trans f1) ((later_cell x _ _ hb1).trans f2) ((later_cell x _ _ hb1).trans f3) ((later_cell x _ _ hb1).trans f4))
            have Hc := hid (fun (x : Later wr) => cellIn_S p.x p.y wi hi x.w ⟨okp.x0, okp.x1, okp.y0, okp.y1⟩ ⟨r0, r1, r2, r3⟩)
            have Hf := hid (fun (x : Later wr) => find_S b wi hi (some ⟨b1, o1, none⟩) c xs p.x p.y x.w (hbw.below x.below hbw') (hsw.below x.below))
            obtain ⟨d1, hd1⟩ : ∃ d1 : Bool, pcOk p = d1 := ⟨_, rfl⟩
            obtain ⟨d2, hd2⟩ : ∃ d2 : Bool, cellIn p.x p.y wi hi = d2 := ⟨_, rfl⟩
            obtain ⟨d3, hd3⟩ : ∃ d3 : Bool, (xs.take k).any (atC p.x p.y) = d3 := ⟨_, rfl⟩
            have hv := find_ne Hp.out
            rw [hd3] at hv
            generalize idxOf (atC p.x p.y) xs = v at *
            rw [hd1] at Hs
            rw [hd2] at Hc
            have HO := hid (show okAt wi hi xs k = (d1 && (d2 && !d3)) by unfold okAt; rw [Hp.out]; simp only [hd1, hd2, hd3])
            clear hd1 hd2 hd3 hc1 f2 f3 f4 hbw hsw okp
            have hL := @later_cell wr
            cases hgood : (d1 && (d2 && !d3))
            · rw [hgood] at HO
              have hbad := bdOk_false hlt HO.out
              have HB := hid hbad.symm
              clear hbad
              have hcs : d1 = false ∨ (d1 = true ∧ d2 = false) ∨ (d1 = true ∧ d2 = true ∧ d3 = true) := by
                revert hgood; cases d1 <;> cases d2 <;> cases d3 <;> simp
              clear hgood
              rcases hcs with rfl | ⟨rfl, rfl⟩ | ⟨rfl, rfl, rfl⟩
              all_goals (
                go_wp2_with fail
                refine wp_region_later (by kernel_rfl) (by kernel_rfl) ?_
                repeat (first | go_big_quiet_skip | (go_big_quiet_want; go_big_quiet_op; first | go_big_quiet_on | (apply Exists.intro; refine ⟨fun _ => ?_, ?_⟩; (first | (go_at_call 80; exact quiet_later (Hs.out _)) | (go_at_call 81; exact quiet_later (Hc.out _)) | (go_at_call 82; exact quiet_later (Hf.out _))); go_big_quiet_on)))
                refine wpQuiet_nil ?_
                intro x
                go_wp2_with fail
                go_ret
                exact ⟨ret_bool HB.out, below_of hbl hz x.below⟩)
            · rw [hgood] at HO
              obtain ⟨rfl, rfl, rfl⟩ : d1 = true ∧ d2 = true ∧ d3 = false := by
                revert hgood; cases d1 <;> cases d2 <;> cases d3 <;> simp
              go_wp2_with fail
              refine wp_region_later (by kernel_rfl) (by kernel_rfl) ?_
              repeat (first | go_big_quiet_skip | (go_big_quiet_want; go_big_quiet_op; first | go_big_quiet_on | (apply Exists.intro; refine ⟨fun _ => ?_, ?_⟩; (first | (go_at_call 80; exact quiet_later (Hs.out _)) | (go_at_call 81; exact quiet_later (Hc.out _)) | (go_at_call 82; exact quiet_later (Hf.out _))); go_big_quiet_on)))
              refine wpQuiet_nil ?_
              intro x
              go_wp2_with fail
              exact ⟨⟨k + 1, by omega, by go_num, below_ok HT.out HO.out, below_of hbl hz x.below⟩, by simp [intOf]; omega⟩
          · obtain rfl : k = xs.length := by omega
            go_wp2_with fail
            go_ret
            exact ⟨ret_bool (bdOk_true E1.out E2.out (by omega) HT.out).symm, hbl⟩
    · have e2' : inB hi 1 24 = false := by simpa using e2
      have : bdOk wi hi xs = false := by simp [bdOk, e2']
      rw [this]
      clear this
      go_enter Try.func33, Try.ntmps33
      go_wp2_with (go_at_call 54; refine (in_S _ _ _ _).mono ?_; rintro e w' ⟨rfl, rfl⟩)
      go_ret
      exact ⟨rfl, Below.refl _ _⟩
  · have e1' : inB wi 1 24 = false := by simpa using e1
    have : bdOk wi hi xs = false := by simp [bdOk, e1']
    rw [this]
    clear this
    go_enter Try.func33, Try.ntmps33
    go_wp2_with (go_at_call 54; refine (in_S _ _ _ _).mono ?_; rintro e w' ⟨rfl, rfl⟩)
    go_ret
    exact ⟨rfl, Below.refl _ _⟩
end Go.Proofs.Ytemnglkenaklnaa
