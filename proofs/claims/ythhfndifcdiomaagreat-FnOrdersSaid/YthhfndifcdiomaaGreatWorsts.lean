/-
  slices.Sorted(slices.Values(list)) at int64: a new list that holds the list's numbers, sorted.
  Whether a list is an order of a board's pieces, both the program's and the reference's.
  WorstsOf, both the program's and the reference's.
  PeakOf, both the program's and the reference's.
  Conditions: the list is short. the fields are in their kinds' ranges.
-/
import Derived.Test.YthhfndifcdiomaaGreatCostI
import Derived.Test.YthhfndifcdiomaaGreatLayOr
import Derived.RangeFuncBox
import Derived.RangeFuncLeaves
import Derived.Test.YthhfndifcdiomaaGreatGaps
import Derived.Test.YthhfndifcdiomaaGreatSafe
import Derived.Test.YthhfndifcdiomaaGreatOb
namespace Go.Proofs.YthhfndifcdiomaaGreat
open Go.RowKit Go.Maps Go.Sort Go.Shelf
set_option linter.unusedSimpArgs false
set_option linter.unusedVariables false
open Go.RowKit

attribute [local go_sem] Oper.semAt_some

/-- What an iterator gives to whatever rounds that leave alone what lay before. -/
def SeqB (F : Fence) (n : Nat) (P : Program) (g : Nat) (lb : Array Value) (zs : List Int) (w : World) : Prop :=
  ∀ (l : Nat) (J : List Int → World → Prop) (W : World), Below w.heap.size w W →
    (∀ pre x W1, J pre W1 → pre.length < zs.length → YieldAt F (n - 1) P l #[encZ x] W1 fun e W' => e = .returned (.bool true) ∧ J (pre ++ [x]) W' ∧ Below w.heap.size W1 W') →
    J [] W →
    CallsIn F n P g (#[.func (.yield l) #[] #[]] ++ lb) W fun e W' => (∃ v, e = .returned v) ∧ J zs W'
theorem below_part {b : Nat} {w W1 W2 : World} (h1 : Below b w W1) (h2 : Below b w W2) (hs : W1.heap.size ≤ W2.heap.size) : Below b W1 W2 :=
  ⟨h2.os.trans h1.os.symm, h2.tape.trans h1.tape.symm, h2.output.trans h1.output.symm, hs, fun k hk => (h2.block k hk).trans (h1.block k hk).symm⟩
set_option maxRecDepth 100000 in
set_option maxHeartbeats 1000000 in
/-- slices.Values' closure. -/
theorem values_in (Bs : Nat) (a : Option Addr) (c : Nat) (zs : List Int) (w : World) (hBs : w.cell? ⟨Bs, 0, none⟩ = some (.slice a zs.length c)) (h : SlA en1 1 w a zs) (n : Nat) (hn : 1 ≤ n) :
    SeqB Fence.wide n Tryz.prog 81 #[.pointer (some ⟨Bs, 0, none⟩)] zs w := fun l J W hb0 hY h0 => by
  have hBlt : Bs < w.heap.size := World.block_lt_of_cell? w ⟨Bs, 0, none⟩ hBs
  have sa := h.small
  have hBW := (hb0.cell (p := ⟨Bs, 0, none⟩) hBlt).trans hBs
  have hC : ∀ k, k < zs.length → ∃ b o x, a = some ⟨b, o, none⟩ ∧ zs.take (k + 1) = zs.take k ++ [x] ∧ ∀ W', Below w.heap.size w W' → W'.cell? ⟨b, o + k, none⟩ = some (.int .i64 x) := fun k hk => by
    obtain ⟨b, o, e, hlt, hc⟩ := en1_cells h (by omega)
    exact ⟨b, o, zs[k], e, by rw [List.take_add_one, List.getElem?_eq_getElem hk]; rfl, fun W' hW' => (hW'.cell (p := ⟨b, o + k, none⟩) hlt).trans (hc k _ (List.getElem?_eq_getElem hk))⟩
  refine callsIn_of_wp Tryz.func81 rfl trivial ?_ rfl
  simp only [Tryz.ntmps81, List.size_toArray, List.length_cons, List.length_nil, Nat.reduceAdd, Nat.reduceSub, Array.replicate_succ, Array.replicate_zero, List.push_toArray, List.append_toArray, List.nil_append, List.cons_append]
  gi_wp2
  gi_loopw [7] (fun i wr => ∃ k : Nat, k ≤ zs.length ∧ i = .int .i64 k ∧ J (zs.take k) wr ∧ Below w.heap.size w wr)
    (fun i _ => zs.length - (intOf i).toNat)
  case atStart => exact ⟨0, Nat.zero_le _, rfl, h0, hb0⟩
  case round =>
    obtain ⟨k, hk, rfl, hJs, hnx⟩ := hrel
    by_cases hlt : k < zs.length
    · obtain ⟨b, o, x, rfl, htk, hc⟩ := hC k hlt
      have hcx := hc wr hnx
      obtain ⟨fn, tmps, assign, body, hy, hR⟩ := hY _ x wr hJs (by rw [List.length_take]; omega)
      have hd : decide ((k : Int) < (zs.length : Int)) = true := by rw [decide_eq_true_iff]; omega
      have HTK := hid htk
      clear hc hC htk
      gi_wp2
      refine hR.mono ?_
      rintro e W3 ⟨rfl, hJ3, hk3⟩
      gi_wp2
      go_roundw
      case rel => exact ⟨k + 1, by omega, by simp, by rw [HTK.out]; exact hJ3, hnx.trans hk3⟩
      case measure => simp [intOf]; omega
    · obtain rfl : k = zs.length := by omega
      clear hC
      gi_wp2
      go_end0
      rw [List.take_of_length_le (Nat.le_refl _)] at hJs
      exact ⟨⟨_, rfl⟩, hJs⟩
set_option maxRecDepth 100000 in
set_option maxHeartbeats 2000000 in
/-- slices.AppendSeq(nil, seq), the iterator being one that reads a list. -/
theorem appSeqB (n : Nat) (hn : 2 ≤ n) (g : Nat) (lb : Array Value) (eg : ∀ args w, (callFunc g args).run Tryz.prog w = .ok (.enter g args) w)
    (zs : List Int) (hN : zs.length ≤ 1048576) (w : World) (hseq : SeqB Fence.wide (n - 1) Tryz.prog g lb zs w) :
    CallsIn Fence.wide n Tryz.prog 97 #[.slice none 0 0, .func (.func g) #[] lb] w fun e w' => ∃ (v : Value), e = .returned v ∧ w'.ownsRow w.heap.size 2 1 v zs.length (zs.map encZ) ∧ Below w.heap.size w w' := by
  have L := Tryz.sortedN
  have h1 : 1 ≤ n := by omega
  refine callsIn_of_wp_marks Tryz.func97 rfl trivial ?_ rfl
  simp only [Tryz.ntmps97, List.size_toArray, List.length_cons, List.length_nil, Nat.reduceAdd, Nat.reduceSub, Array.replicate_succ, Array.replicate_zero, List.push_toArray, List.append_toArray, List.nil_append, List.cons_append]
  gi_wp2
  refine wpIn_rangeFunc ?_
  intro fn hfn
  obtain ⟨W0, hW0⟩ : ∃ W0, w.alloc (.cells #[.slice none 0 0] 29) = W0 := ⟨_, rfl⟩
  have hs0 : W0.heap.size = w.heap.size + 1 := by rw [← hW0]; simp
  have hv0 : W0.heap[w.heap.size]? = some (.cells #[.slice none 0 0] 29 (0, 0)) := by rw [← hW0]; exact World.alloc_heap_new w _
  have hb0 : Below w.heap.size w W0 := by rw [← hW0]; exact (Below.refl _ w).alloc (Nat.le_refl _) _
  rw [hW0]
  obtain ⟨W1, hW1⟩ : ∃ W1, (W0.alloc (.deferred (some []))).alloc (.loop (AnyZI.apRec Tryz.sortedN_ren fn (.func (.func g) #[] lb) w.heap.size W0.heap.size .ready none)) = W1 := ⟨_, rfl⟩
  have hold : ∀ k, k < W0.heap.size → W1.heap[k]? = W0.heap[k]? := fun k hk => by
    rw [← hW1]; exact (Below.heap_alloc _ _ k (by simp; omega)).trans (Below.heap_alloc _ _ k hk)
  have hb1 : Below w.heap.size w W1 := by rw [← hW1]; exact (hb0.alloc hb0.size _).alloc (by have := hb0.size; simp; omega) _
  have hs1 : W1.heap.size = W0.heap.size + 2 := by rw [← hW1]; simp
  have hM : AnyZI.ApAt Tryz.sortedN_ren w fn (.func (.func g) #[] lb) w.heap.size (W0.heap.size + 1) W0.heap.size [] W1 :=
    ⟨⟨_, (hold w.heap.size (by omega)).trans hv0, ⟨rfl, .inl ⟨rfl, rfl⟩⟩, by simp⟩,
     by rw [← hW1]; have := World.alloc_heap_new (W0.alloc (.deferred (some []))) (.loop (AnyZI.apRec Tryz.sortedN_ren fn (.func (.func g) #[] lb) w.heap.size W0.heap.size .ready none)); rwa [World.size_alloc] at this,
     by rw [← hW1]; exact (Below.heap_alloc _ _ _ (by simp)).trans (World.alloc_heap_new W0 _), hb1⟩
  refine ⟨W0.heap.size + 1, [{ target := .collected W0.heap.size, args := #[] }], W1, { target := .fn (.func g) lb, args := #[.func (.yield (W0.heap.size + 1)) #[] #[]] }, W1, g,
    #[.func (.yield (W0.heap.size + 1)) #[] #[]] ++ lb, W1, ?_, ?_, ?_, ?_, fun _ => h1, ?_⟩
  · rw [← hW1]; exact run_enterLoop_outer _ _ _ _ _
  · simp [resolve, go_sem]
  · intro f' hf'; exact trivial
  · simp [invoke, go_sem, eg]
  · refine (hseq (W0.heap.size + 1) (AnyZI.ApAt Tryz.sortedN_ren w fn (.func (.func g) #[] lb) w.heap.size (W0.heap.size + 1) W0.heap.size) W1 hb1
      (fun pre x W hJ hl => (AnyZI.apYield { L with } Fence.wide (n - 1 - 1) w fn hfn _ w.heap.size (W0.heap.size + 1) W0.heap.size (by omega) (by omega) (by omega) (Nat.le_refl _) (by omega) zs.length (by unfold maxLen; omega) (by omega) pre x W hJ hl).mono (fun e W' h => ⟨h.1, h.2.1, below_part hJ.below h.2.1.below h.2.2.size⟩)) hM).mono ?_
    rintro e W2 ⟨⟨v0, rfl⟩, h2⟩
    obtain ⟨v, hv, hrow, hnil⟩ := h2.box
    have hend := run_endLoop (P := Tryz.prog) h2.L (by simp [AnyZI.apRec])
    obtain ⟨W3, hW3⟩ : ∃ W3, W2.putObj (W0.heap.size + 1) (.loop { AnyZI.apRec Tryz.sortedN_ren fn (.func (.func g) #[] lb) w.heap.size W0.heap.size .ready none with state := .exhausted }) = W3 := ⟨_, rfl⟩
    rw [hW3] at hend
    have hg3 : W2.grownBy W3 (some (W0.heap.size + 1)) := by rw [← hW3]; exact grownBy_putObj_a _ _ _
    have hv3 : W3.heap[w.heap.size]? = some (.cells #[v] 29 (0, 0)) := by rw [← hW3]; exact (World.putObj_heap_other (by omega)).trans hv
    have hK3 : W3.heap[W0.heap.size]? = some (.deferred (some [])) := by rw [← hW3]; exact (World.putObj_heap_other (by omega)).trans h2.K
    have hrow3 : W3.ownsRow w.heap.size 2 1 v zs.length (zs.map encZ) := hrow.kept hg3 (ownsRow_ne_a hrow h2.L (fun cur e => by cases e))
    have hb3 : Below w.heap.size w W3 := h2.below.grown hg3 h2.below.size (fun k e => by cases e; omega)
    obtain ⟨hc3, hf3⟩ := cell_of_box_a hv3
    clear hW3
    refine ⟨none, W3, hend, ?_⟩
    gi_wp2
    rw [← hs0]
    refine ⟨by simp, .inl ⟨_, _, rfl, run_takeDeferred hK3, ?_⟩⟩
    exact ⟨_, results_tmp rfl _ _ _, v, rfl, hrow3.kept (grownBy_putObj_a _ _ _) (ownsRow_ne_a hrow3 hK3 (fun cur e => by cases e)), hb3.grown (grownBy_putObj_a _ _ _) hb3.size (fun k e => by cases e; omega)⟩
theorem map_encZ (zs : List Int) : zs.map encZ = zs.flatMap en1 := by
  induction zs with
  | nil => rfl
  | cons z r ih => rw [List.map_cons, List.flatMap_cons, ih]; rfl
set_option maxRecDepth 100000 in
set_option maxHeartbeats 1000000 in
theorem collectB (n : Nat) (hn : 3 ≤ n) (g : Nat) (lb : Array Value) (eg : ∀ args w, (callFunc g args).run Tryz.prog w = .ok (.enter g args) w)
    (zs : List Int) (hN : zs.length ≤ 1048576) (w : World) (hseq : SeqB Fence.wide (n - 1 - 1) Tryz.prog g lb zs w) :
    CallsIn Fence.wide n Tryz.prog 79 #[.func (.func g) #[] lb] w fun e w' => ∃ (v : Value), e = .returned v ∧ w'.ownsRow w.heap.size 2 1 v zs.length (zs.map encZ) ∧ Below w.heap.size w w' := by
  have h1 : 1 ≤ n := by omega
  have hf : Fence.wide.fn 97 := trivial
  have hA := appSeqB (n - 1) (by omega) g lb eg zs hN w hseq
  refine callsIn_of_wp Tryz.func79 rfl trivial ?_ rfl
  simp only [Tryz.ntmps79, List.size_toArray, List.length_cons, List.length_nil, Nat.reduceAdd, Nat.reduceSub, Array.replicate_succ, Array.replicate_zero, List.push_toArray, List.append_toArray, List.nil_append, List.cons_append]
  gi_wp2_with (gi_at_call 97; refine hA.mono ?_; rintro e w' ⟨v, rfl, hrow, hb⟩)
  go_ret
  exact ⟨v, rfl, hrow, hb⟩
set_option maxRecDepth 100000 in
set_option maxHeartbeats 1000000 in
theorem sortedB (n : Nat) (hn : 4 ≤ n) (g : Nat) (lb : Array Value) (eg : ∀ args w, (callFunc g args).run Tryz.prog w = .ok (.enter g args) w)
    (zs : List Int) (hN : zs.length ≤ 1048576) (w : World) (hseq : SeqB Fence.wide (n - 1 - 1 - 1) Tryz.prog g lb zs w) :
    CallsIn Fence.wide n Tryz.prog 63 #[.func (.func g) #[] lb] w fun e w' => ∃ A c, e = .returned (.slice A zs.length c) ∧ w'.ownsRow w.heap.size 2 1 (.slice A zs.length c) zs.length ((zs.mergeSort (fun x y => decide (x ≤ y))).map encZ) ∧ Below w.heap.size w w' := by
  have h1 : 1 ≤ n := by omega
  have hf : Fence.wide.fn 79 := trivial
  have hf2 : Fence.wide.fn 80 := trivial
  have hA := collectB (n - 1) (by omega) g lb eg zs hN w hseq
  refine callsIn_of_wp Tryz.func63 rfl trivial ?_ rfl
  simp only [Tryz.ntmps63, List.size_toArray, List.length_cons, List.length_nil, Nat.reduceAdd, Nat.reduceSub, Array.replicate_succ, Array.replicate_zero, List.push_toArray, List.append_toArray, List.nil_append, List.cons_append]
  gi_wp2_with (gi_at_call 79; refine hA.mono ?_; rintro e W ⟨v, rfl, hrow, hb⟩)
  rcases hrow.2 with ⟨rfl, hz⟩ | ⟨gb, cap, cur, rfl, hbase, hgb, r1, r2, r3, r4⟩
  · obtain rfl : zs = [] := List.eq_nil_of_length_eq_zero hz
    have hS : CallsIn Fence.wide (n - 1) Tryz.prog 80 #[.slice none 0 0] W fun e w' => e = .returned (.tuple #[]) ∧ w' = W := callsIn_wide.2 (AnyM.slices_Sort_int_none Tryz.sortN none 0 W)
    gi_wp2_with (gi_at_call 80; refine hS.mono ?_; rintro e w' ⟨rfl, rfl⟩)
    go_ret
    exact ⟨none, 0, rfl, by simpa using hrow, hb⟩
  · have hH : Holds encZ W gb 0 zs.toArray := holds_of_block_i hgb (by simpa using r4)
    have hgl : gb < W.heap.size := (Array.getElem?_eq_some_iff.1 hgb).1
    have hS : CallsIn Fence.wide (n - 1) Tryz.prog 80 #[.slice (some ⟨gb, 0, none⟩) zs.length cap] W fun e w' => e = .returned (.tuple #[]) ∧ ∃ n os, w' = grow (putRow encZ (Sort.ahead W n) gb 0 (zs.mergeSort fun x y => decide (x ≤ y)).toArray) os := callsIn_wide.2 (AnyM.slices_Sort_int Tryz.sortN gb 0 cap zs W hH hgl (by omega))
    gi_wp2_with (gi_at_call 80; refine hS.mono ?_; rintro e w' ⟨rfl, nn, os, rfl⟩)
    go_ret
    exact ⟨_, _, rfl, ownsRow_sorted_i (by simp) hbase hgb r1 r2 r3, hb.grown (grownBy_sorted_i _) hb.size (fun j hj => by cases hj; exact hbase)⟩
theorem values_I (a : Option Addr) (n c : Nat) (w : World) :
    Calls Tryz.prog 64 #[.slice a n c] w fun e w' => e = .returned (.func (.func 81) #[] #[.pointer (some ⟨w.heap.size, 0, none⟩)]) ∧ w' = w.alloc (.cells #[.slice a n c] 29) := by
  go_enter Tryz.func64, Tryz.ntmps64
  go_wp2_with fail
  go_ret
  exact ⟨rfl, rfl⟩
theorem sortedV_I (Bs : Nat) (a : Option Addr) (c : Nat) (zs : List Int) (w : World) (hBs : w.cell? ⟨Bs, 0, none⟩ = some (.slice a zs.length c)) (h : SlA en1 1 w a zs) (hN : zs.length ≤ 1048576) :
    Calls Tryz.prog 63 #[.func (.func 81) #[] #[.pointer (some ⟨Bs, 0, none⟩)]] w fun e w' => ∃ A c, e = .returned (.slice A zs.length c) ∧ w'.ownsRow w.heap.size 2 1 (.slice A zs.length c) zs.length ((zs.mergeSort (fun x y => decide (x ≤ y))).flatMap en1) ∧ Below w.heap.size w w' := by
  refine (callsIn_wide (n := 8)).1 ?_
  have hk := sortedB 8 (by omega) 81 #[.pointer (some ⟨Bs, 0, none⟩)] (enters_of Tryz.func81 (by kernel_rfl) rfl) zs hN w (values_in Bs a c zs w hBs h (8 - 1 - 1 - 1) (by omega))
  rw [map_encZ] at hk
  exact hk
def ordAt (gs : List Int) (i : Nat) : Bool := inB (gs.getD i 0) 0 ((gs.length : Int) - 1) && !(gs.take i).any (isN (gs.getD i 0))
def ordB (gs : List Int) : Bool := (List.range gs.length).all (ordAt gs)
def sortZ (gs : List Int) : List Int := gs.mergeSort (fun x y => decide (x ≤ y))
def orderG (wi hi : Int) (xs : List Pc) (gs : List Int) : Int := if builtG wi hi xs = 0 then (if gs.length = xs.length ∧ ordB gs = true then 0 else 2) else builtG wi hi xs
theorem ordB_false {gs : List Int} {k : Nat} (hk : k < gs.length) (h : ordAt gs k = false) : ordB gs = false := by
  unfold ordB
  rw [List.all_eq_false]
  exact ⟨k, List.mem_range.2 hk, by simp [h]⟩
theorem ordB_true {gs : List Int} (h : ∀ j, j < gs.length → ordAt gs j = true) : ordB gs = true := by
  unfold ordB
  simpa using h
theorem ordAt_iff {gs : List Int} {i : Nat} (hi : i < gs.length) : ordAt gs i = true ↔ (0 ≤ gs[i] ∧ gs[i] < gs.length) ∧ gs[i] ∉ gs.take i := by
  have e : gs.getD i 0 = gs[i] := by rw [List.getD_eq_getElem?_getD, List.getElem?_eq_getElem hi]; rfl
  unfold ordAt
  rw [e, Bool.and_eq_true, inB_iff, Bool.not_eq_true']
  constructor
  · rintro ⟨h1, h2⟩
    refine ⟨by omega, fun hm => ?_⟩
    rw [any_isN.2 hm] at h2
    cases h2
  · rintro ⟨h1, h2⟩
    refine ⟨by omega, ?_⟩
    cases h : (gs.take i).any (isN gs[i]) with
    | false => rfl
    | true => exact absurd (any_isN.1 h) h2
theorem ordB_iff {gs : List Int} : ordB gs = true ↔ gs.Nodup ∧ ∀ g ∈ gs, 0 ≤ g ∧ g < gs.length := by
  constructor
  · intro h
    have h2 : ∀ i (hi : i < gs.length), (0 ≤ gs[i] ∧ gs[i] < gs.length) ∧ gs[i] ∉ gs.take i := fun i hi => by
      rw [← ordAt_iff hi]
      unfold ordB at h
      exact List.all_eq_true.1 h i (List.mem_range.2 hi)
    refine ⟨?_, fun g hg => ?_⟩
    · unfold List.Nodup
      rw [List.pairwise_iff_getElem]
      intro i j hi hj hij e
      refine (h2 j hj).2 ?_
      rw [← e]
      have : (gs.take j)[i]? = some gs[i] := by rw [List.getElem?_take_of_lt hij, List.getElem?_eq_getElem hi]
      exact List.mem_of_getElem? this
    · obtain ⟨i, hi, rfl⟩ := List.mem_iff_getElem.1 hg
      exact (h2 i hi).1
  · rintro ⟨h1, h2⟩
    refine ordB_true fun j hj => (ordAt_iff hj).2 ⟨h2 _ (List.getElem_mem hj), fun hm => ?_⟩
    obtain ⟨i, hi, e⟩ := List.mem_iff_getElem.1 hm
    rw [List.length_take] at hi
    rw [List.getElem_take] at e
    unfold List.Nodup at h1
    rw [List.pairwise_iff_getElem] at h1
    exact h1 i j (by omega) hj (by omega) e
theorem sort_len (gs : List Int) : (sortZ gs).length = gs.length := by unfold sortZ; exact List.length_mergeSort _
theorem sort_perm (gs : List Int) : (sortZ gs).Perm gs := List.mergeSort_perm _ _
theorem sort_up (gs : List Int) : (sortZ gs).Pairwise (· ≤ ·) := by
  have h := List.pairwise_mergeSort (le := fun x y : Int => decide (x ≤ y)) (fun a b c hab hbc => by simp only [decide_eq_true_eq] at *; omega) (fun a b => by simp only [Bool.or_eq_true, decide_eq_true_eq]; omega) gs
  exact h.imp (fun h => by simpa using h)
theorem strict_range {S : List Int} (hp : S.Pairwise (· < ·)) (hr : ∀ g ∈ S, 0 ≤ g ∧ g < S.length) : ∀ i (hi : i < S.length), S[i] = i := by
  rw [List.pairwise_iff_getElem] at hp
  have lo : ∀ i (hi : i < S.length), (i : Int) ≤ S[i] := fun i => by
    induction i with
    | zero => intro hi; have := (hr _ (List.getElem_mem hi)).1; simpa using this
    | succ i ih => intro hi; have := ih (by omega); have := hp i (i + 1) (by omega) hi (by omega); omega
  have up : ∀ d i (hi : i < S.length), i + d + 1 = S.length → S[i] ≤ i := fun d => by
    induction d with
    | zero => intro i hi he; have := (hr _ (List.getElem_mem hi)).2; omega
    | succ d ih => intro i hi he; have := ih (i + 1) (by omega) (by omega); have := hp i (i + 1) hi (by omega) (by omega); omega
  intro i hi
  have := lo i hi
  have := up (S.length - 1 - i) i hi (by omega)
  omega
theorem sort_iff (gs : List Int) : (∀ i, i < gs.length → (sortZ gs).getD i 0 = (i : Int)) ↔ ordB gs = true := by
  have hl := sort_len gs
  have hp := sort_perm gs
  have hu := sort_up gs
  rw [ordB_iff]
  generalize sortZ gs = S at *
  have eD : ∀ i (hi : i < S.length), S.getD i 0 = S[i] := fun i hi => by rw [List.getD_eq_getElem?_getD, List.getElem?_eq_getElem hi]; rfl
  constructor
  · intro h
    have h2 : ∀ i (hi : i < S.length), S[i] = (i : Int) := fun i hi => by rw [← eD i hi]; exact h i (by omega)
    refine ⟨hp.nodup_iff.1 ?_, fun g hg => ?_⟩
    · unfold List.Nodup
      rw [List.pairwise_iff_getElem]
      intro i j hi hj hij e
      rw [h2 i hi, h2 j hj] at e
      omega
    · obtain ⟨i, hi, rfl⟩ := List.mem_iff_getElem.1 (hp.mem_iff.2 hg)
      rw [h2 i hi]
      omega
  · rintro ⟨h1, h2⟩ i hi
    rw [eD i (by omega)]
    refine strict_range ?_ (fun g hg => by rw [hl]; exact h2 g (hp.mem_iff.1 hg)) i (by omega)
    have hn : S.Nodup := hp.nodup_iff.2 h1
    exact (List.pairwise_and_iff.2 ⟨hu, hn⟩).imp (fun h => by have := h.1; have := h.2; omega)
theorem hasQ_S (a : Option Addr) (c : Nat) (xs : List Int) (n : Int) (w : World) (h : SlA en1 1 w a xs) (m : Nat) (hm : m = xs.length) :
    Calls Tryz.prog 41 #[.slice a m c, .int .i64 n] w fun e w' => e = .returned (.bool (xs.any (isN n))) ∧ w = w' := by
  subst hm
  have sa := h.small
  go_enter Tryz.func41, Tryz.ntmps41
  go_wp2_with fail
  go_loopw [5] (fun i wr => ∃ k : Nat, k ≤ xs.length ∧ i = .int .i64 k ∧ (xs.take k).any (isN n) = false ∧ wr = w) (fun i _ => xs.length - (intOf i).toNat)
  case atStart => exact ⟨0, Nat.zero_le _, rfl, rfl, rfl⟩
  case round =>
    obtain ⟨k, hk, rfl, ht, rfl⟩ := hrel
    by_cases hlt : k < xs.length
    · obtain ⟨b1, o1, rfl, hb1, hc1⟩ := en1_cells h (by omega)
      have e1 : xs[k]? = some xs[k] := List.getElem?_eq_getElem hlt
      have Hp := hid e1
      have HT := hid ht
      clear ht e1
      generalize xs[k] = p at *
      have f0 : wr.cell? ⟨b1, o1 + k, none⟩ = some (.int .i64 p) := hc1 k _ Hp.out
      clear hc1
      by_cases hpn : p = n
      · have hd : isN n p = true := by simp [isN, hpn]
        have Hd := hid hd
        clear hd
        go_wp2_with fail
        go_ret
        refine ⟨ret_bool ?_, rfl⟩
        rw [eq_comm, List.any_eq_true]
        exact ⟨p, List.mem_of_getElem? Hp.out, Hd.out⟩
      · have Hd := hid (show isN n p = false by simp [isN, hpn])
        go_wp2_with fail
        exact ⟨⟨k + 1, by omega, by go_num, any_step HT.out Hp.out Hd.out, trivial⟩, by simp [intOf]; omega⟩
    · obtain rfl : k = xs.length := by omega
      have HT := hid ht
      clear ht
      go_wp2_with fail
      go_ret
      refine ⟨ret_bool ?_, rfl⟩
      have := HT.out
      rw [List.take_length] at this
      exact this.symm
set_option maxRecDepth 100000 in
set_option maxHeartbeats 2000000 in
theorem order_S (b : Nat) (wi hi : Int) (a : Option Addr) (c : Nat) (xs : List Pc) (a2 : Option Addr) (c2 : Nat) (gs : List Int) (w : World) (rw_ : -128 ≤ wi ∧ wi ≤ 127 ∧ -128 ≤ hi ∧ hi ≤ 127) (hs : xs.length ≤ 1048576) (hb : BdA w b wi hi a xs.length c) (h : SlA Pc.enc 5 w a xs) (ok : ∀ p ∈ xs, p.Ok) (h2 : SlA en1 1 w a2 gs) (hgl : gs.length ≤ 1048576) (hgc : gs.length ≤ c2) (hcc : c2 ≤ 9223372036854775807) :
    Calls Tryz.prog 34 #[.pointer (some ⟨b, 0, none⟩), .slice a2 gs.length c2] w fun e w' => e = .returned (.int .i64 (orderG wi hi xs gs)) ∧ Below w.heap.size w w' := by
  have Ha := hid (asked7_S b wi hi a c xs w rw_ hb h ok)
  have HBD := hid (fun W (hW : Below w.heap.size w W) => hb.below hW hb.lt)
  have HSL := hid (fun W (hW : Below w.heap.size w W) => h2.below hW)
  clear hb h h2
  obtain ⟨v, hv⟩ : ∃ v, builtG wi hi xs = v := ⟨_, rfl⟩
  rw [hv] at Ha
  by_cases hv0 : v = 0
  · subst hv0
    go_enter Tryz.func34, Tryz.ntmps34
    go_wp2_with fail
    refine Ha.out.mono ?_
    rintro e w1 ⟨rfl, hb1⟩
    have B1 := hid hb1
    have c2' := (HBD.out w1 hb1).c2
    clear hb1
    by_cases hl : gs.length = xs.length
    · have HG := hid (show orderG wi hi xs gs = if ordB gs = true then 0 else 2 by unfold orderG; rw [if_pos hv]; simp only [hl, true_and])
      have HL := hid hl
      have e1 : ((gs.length : Int) != (xs.length : Int)) = false := by rw [hl]; simp
      have e2 : (gs.length != xs.length) = false := by rw [hl]; simp
      clear hl hv
      go_wp2_with fail
      clear c2'
      go_loopw [6] (fun i wr => ∃ k : Nat, k ≤ gs.length ∧ i = .int .i64 k ∧ (∀ j, j < k → ordAt gs j = true) ∧ Below w.heap.size w wr) (fun i _ => gs.length - (intOf i).toNat)
      case atStart => exact ⟨0, Nat.zero_le _, rfl, fun j hj => by omega, B1.out⟩
      case round =>
        obtain ⟨k, hk, rfl, ht, hbl⟩ := hrel
        have HT := hid ht
        have HBL := hid hbl
        by_cases hlt : k < gs.length
        · have hd : decide ((k : Int) < (gs.length : Int)) = true := by rw [decide_eq_true_iff]; omega
          obtain ⟨b1, o1, rfl, hb1, hc1⟩ := en1_cells (HSL.out wr hbl) (by omega)
          have eg : gs[k]? = some gs[k] := List.getElem?_eq_getElem hlt
          have eD : gs.getD k 0 = gs[k] := by rw [List.getD_eq_getElem?_getD, eg]; rfl
          have hA := hid (show ordAt gs k = (inB gs[k] 0 ((gs.length : Int) - 1) && !(gs.take k).any (isN gs[k])) by unfold ordAt; rw [eD])
          have hcell := fun n => (show (wr.drewN n).cell? ⟨b1, o1 + k, none⟩ = some (.int .i64 gs[k]) from hc1 k _ eg)
          have hHas := hid (fun n => hasQ_S (some ⟨b1, o1, none⟩) c2 (gs.take k) gs[k] (wr.drewN n) ((take_en1 (HSL.out wr hbl) k).below (below_drewN (Below.refl _ _) n)) k (by rw [List.length_take]; omega))
          have hIn := hid (fun n => in_S gs[k] 0 ((gs.length : Int) - 1) (wr.drewN n))
          have hw1 : IntKind.i64.wrap ((gs.length : Int) - 1) = (gs.length : Int) - 1 := IntWalk.i64_in _ (by omega)
          have hkc : k ≤ c2 := by omega
          generalize gs[k] = g at *
          cases hin : inB g 0 ((gs.length : Int) - 1) with
          | false =>
            rw [hin] at hA hIn
            have G := hid (show orderG wi hi xs gs = 2 by rw [HG.out, ordB_false hlt (by rw [hA.out]; rfl)]; rfl)
            clear ht hbl hc1 eg eD hA hin
            go_wp2_with fail
            go_quiet ((go_at_call 51; exact quiet_eqS (hIn.out _)))
            go_wp2_with fail
            go_ret
            exact ⟨ret_int (by rw [G.out]), below_drewN HBL.out _⟩
          | true =>
            rw [hin] at hA hIn
            cases hhas : (gs.take k).any (isN g) with
            | true =>
              rw [hhas] at hA hHas
              have G := hid (show orderG wi hi xs gs = 2 by rw [HG.out, ordB_false hlt (by rw [hA.out]; rfl)]; rfl)
              clear ht hbl hc1 eg eD hA hin hhas
              go_wp2_with fail
              go_quiet (first | (go_at_call 51; exact quiet_eqS (hIn.out _)) | (go_at_call 41; exact quiet_eqS (hHas.out _)))
              go_wp2_with fail
              go_ret
              exact ⟨ret_int (by rw [G.out]), below_drewN HBL.out _⟩
            | false =>
              rw [hhas] at hA hHas
              have G := hid (show ordAt gs k = true by rw [hA.out]; rfl)
              clear ht hbl hc1 eg eD hA hin hhas
              go_wp2_with fail
              go_quiet (first | (go_at_call 51; exact quiet_eqS (hIn.out _)) | (go_at_call 41; exact quiet_eqS (hHas.out _)))
              go_wp2_with fail
              exact ⟨⟨k + 1, by omega, by go_num, fun j hj => by
                rcases Nat.lt_or_ge j k with h | h
                · exact HT.out j h
                · obtain rfl : j = k := by omega
                  exact G.out, below_drewN HBL.out _⟩, by simp [intOf]; omega⟩
        · obtain rfl : k = gs.length := by omega
          have hd : decide ((gs.length : Int) < (gs.length : Int)) = false := by rw [decide_eq_false_iff_not]; omega
          have G := hid (show orderG wi hi xs gs = 0 by rw [HG.out, ordB_true ht]; rfl)
          clear ht hbl
          go_wp2_with fail
          go_ret
          exact ⟨ret_int (by rw [G.out]), HBL.out⟩
    · have G := hid (show orderG wi hi xs gs = 2 by unfold orderG; rw [if_pos hv, if_neg (fun h => hl h.1)])
      have e1 : ((gs.length : Int) != (xs.length : Int)) = true := by simp; omega
      have e2 : (gs.length != xs.length) = true := by simp; omega
      clear hv
      go_wp2_with fail
      go_ret
      exact ⟨ret_int (by rw [G.out]), B1.out⟩
  · have HG := hid (show orderG wi hi xs gs = v by unfold orderG; rw [hv, if_neg hv0])
    have hne : (v != 0) = true := by simpa using hv0
    clear hv hv0
    go_enter Tryz.func34, Tryz.ntmps34
    go_wp2_with fail
    refine Ha.out.mono ?_
    rintro e w1 ⟨rfl, hb1⟩
    have B1 := hid hb1
    clear hb1
    go_wp2_with fail
    go_ret
    exact ⟨ret_int (by rw [HG.out]), B1.out⟩
set_option maxRecDepth 100000 in
set_option maxHeartbeats 2000000 in
theorem orderOk_I (wi hi : Int) (a : Option Addr) (c : Nat) (xs : List Pc) (a2 : Option Addr) (c2 : Nat) (gs : List Int) (w : World) (rw_ : -128 ≤ wi ∧ wi ≤ 127 ∧ -128 ≤ hi ∧ hi ≤ 127) (hs : xs.length ≤ 1048576) (h : SlA Pc.enc 5 w a xs) (ok : ∀ p ∈ xs, p.Ok) (h2 : SlA en1 1 w a2 gs) (hgl : gs.length ≤ 1048576) :
    Calls Tryz.prog 31 #[.agg #[.int .i8 wi, .int .i8 hi, .slice a xs.length c], .slice a2 gs.length c2] w fun e w' => e = .returned (.int .i64 (orderG wi hi xs gs)) ∧ Below w.heap.size w w' := by
  obtain ⟨W0, hW0⟩ : ∃ W, W = w.alloc (.cells #[.int .i8 wi, .int .i8 hi, .slice a xs.length c] 27) := ⟨_, rfl⟩
  have B0 : Below w.heap.size w W0 := by rw [hW0]; exact (Below.refl _ _).alloc (Nat.le_refl _) _
  have hbd : BdA W0 w.heap.size wi hi a xs.length c := by rw [hW0]; exact ⟨by simp, by simp [go_sem], by simp [go_sem], by simp [go_sem]⟩
  have d0 : W0.cell? ⟨w.heap.size, 0, none⟩ = some (.int .i8 wi) := hbd.c0
  have d1 : W0.cell? ⟨w.heap.size, 1, none⟩ = some (.int .i8 hi) := hbd.c1
  have d2 : W0.cell? ⟨w.heap.size, 2, none⟩ = some (.slice a xs.length c) := hbd.c2
  have HAs := hid (builtOk_I wi hi a c xs W0 rw_ (h.below B0) ok)
  have HB0 := hid B0
  have HBD := hid (fun W (hW : Below W0.heap.size W0 W) => (hbd.below hW hbd.lt).c2)
  have HSL := hid (fun W (hW : Below W0.heap.size W0 W) => (h2.below B0).below hW)
  obtain ⟨v, hv⟩ : ∃ v, builtG wi hi xs = v := ⟨_, rfl⟩
  rw [hv] at HAs
  by_cases hv0 : v = 0
  · subst hv0
    have HG := hid (show orderG wi hi xs gs = if gs.length = xs.length ∧ ordB gs = true then 0 else 2 by unfold orderG; rw [if_pos hv])
    have HSi := hid (sort_iff gs)
    clear B0 hbd h h2 hv
    go_enter Tryz.func31, Tryz.ntmps31
    go_upto_region 1 with fail
    rw [← hW0]
    clear hW0
    go_wp2_with fail
    refine HAs.out.mono ?_
    rintro e w1 ⟨rfl, hb1⟩
    have B1 := hid hb1
    clear hb1 d0 d1 d2
    go_wp2_with fail
    refine (values_I _ _ _ _).mono ?_
    rintro e w2 ⟨rfl, hw2⟩
    have b2 : Below w1.heap.size w1 w2 := by rw [hw2]; exact (Below.refl _ _).alloc (Nat.le_refl _) _
    have B2 := hid (below_of B1.out B1.out.size b2)
    have hcb : w2.cell? ⟨w1.heap.size, 0, none⟩ = some (.slice a2 gs.length c2) := by rw [hw2]; simp [go_sem]
    have HSo := hid (sortedV_I w1.heap.size a2 c2 gs w2 hcb (HSL.out w2 B2.out) hgl)
    clear b2 hcb hw2
    go_wp2_with fail
    refine HSo.out.mono ?_
    rintro e w3 ⟨A3, c3, rfl, own3, hb3⟩
    have B3 := hid (below_of B2.out B2.out.size hb3)
    have hsl := sort_len gs
    have HS3 := hid (show SlA en1 1 w3 A3 (sortZ gs) from en1_row (c := c3) (by rw [hsl]; exact own3))
    clear own3 hb3
    go_wp2_with fail
    go_loopw [19] (fun i wr => ∃ k : Nat, k ≤ gs.length ∧ i = .int .i64 k ∧ (∀ j, j < k → (sortZ gs).getD j 0 = (j : Int)) ∧ wr = w3) (fun i _ => gs.length - (intOf i).toNat)
    case atStart => exact ⟨0, Nat.zero_le _, rfl, fun j hj => by omega, rfl⟩
    case round =>
      obtain ⟨k, hk, rfl, ht, rfl⟩ := hrel
      have HT := hid ht
      by_cases hlt : k < gs.length
      · have hd : decide ((k : Int) < (gs.length : Int)) = true := by rw [decide_eq_true_iff]; omega
        obtain ⟨b1, o1, rfl, hb1, hc1⟩ := en1_cells HS3.out (by rw [hsl]; omega)
        have hlt2 : k < (sortZ gs).length := by rw [hsl]; exact hlt
        have eg : (sortZ gs)[k]? = some (sortZ gs)[k] := List.getElem?_eq_getElem hlt2
        have eD := hid (show (sortZ gs).getD k 0 = (sortZ gs)[k] by rw [List.getD_eq_getElem?_getD, eg]; rfl)
        have hcell := hc1 k _ eg
        have HSl := hid hsl
        generalize (sortZ gs)[k] = g at *
        clear hsl hlt2
        by_cases hgk : g = (k : Int)
        · have e1 : (g != (k : Int)) = false := by simp [hgk]
          have HN := hid (fun j (hj : j < k + 1) => (show (sortZ gs).getD j 0 = (j : Int) by
            rcases Nat.lt_or_ge j k with h | h
            · exact HT.out j h
            · obtain rfl : j = k := by omega
              rw [eD.out, hgk]))
          clear ht hc1 eg hgk
          go_wp2_with fail
          exact ⟨⟨k + 1, by omega, by go_num, HN.out, trivial⟩, by simp [intOf]; omega⟩
        · have e1 : (g != (k : Int)) = true := by simpa using hgk
          have G := hid (show orderG wi hi xs gs = 2 by
            rw [HG.out, if_neg]
            rintro ⟨_, h⟩
            have := HSi.out.2 h k hlt
            rw [eD.out] at this
            exact hgk this)
          clear ht hc1 eg hgk
          go_wp2_with fail
          go_ret
          exact ⟨ret_int (by rw [G.out]), below_of HB0.out HB0.out.size B3.out⟩
      · obtain rfl : k = gs.length := by omega
        have hd : decide ((gs.length : Int) < (gs.length : Int)) = false := by rw [decide_eq_false_iff_not]; omega
        have c2' := HBD.out wr B3.out
        have hob := HSi.out.1 ht
        by_cases hl : gs.length = xs.length
        · have e1 : ((gs.length : Int) != (xs.length : Int)) = false := by rw [hl]; simp
          have e2 : (gs.length != xs.length) = false := by rw [hl]; simp
          have G := hid (show orderG wi hi xs gs = 0 by rw [HG.out, if_pos ⟨hl, hob⟩])
          clear ht hl
          go_wp2_with fail
          go_ret
          exact ⟨ret_int (by rw [G.out]), below_of HB0.out HB0.out.size B3.out⟩
        · have e1 : ((gs.length : Int) != (xs.length : Int)) = true := by simp; omega
          have e2 : (gs.length != xs.length) = true := by simp; omega
          have G := hid (show orderG wi hi xs gs = 2 by rw [HG.out, if_neg (fun h => hl h.1)])
          clear ht hl
          go_wp2_with fail
          go_ret
          exact ⟨ret_int (by rw [G.out]), below_of HB0.out HB0.out.size B3.out⟩
  · have HG := hid (show orderG wi hi xs gs = v by unfold orderG; rw [hv, if_neg hv0])
    have hne : (v != 0) = true := by simpa using hv0
    clear B0 hbd h h2 hv hv0
    go_enter Tryz.func31, Tryz.ntmps31
    go_upto_region 1 with fail
    rw [← hW0]
    clear hW0
    go_wp2_with fail
    refine HAs.out.mono ?_
    rintro e w1 ⟨rfl, hb1⟩
    have HB1 := hid (below_of HB0.out HB0.out.size hb1)
    clear hb1
    go_wp2_with fail
    go_ret
    exact ⟨ret_int (by rw [HG.out]), HB1.out⟩
def WorstsOfG (wi hi : Int) (xs : List Pc) (gs : List Int) : List Int × Int := if orderG wi hi xs gs = 0 then (worstsL xs gs gs.length, 0) else ([], orderG wi hi xs gs)
def PeakOfG (wi hi : Int) (xs : List Pc) (gs : List Int) : Int × Int := if orderG wi hi xs gs = 0 then (peakL (worstsL xs gs gs.length), 0) else (0, orderG wi hi xs gs)
theorem WorstsOf_len (wi hi : Int) (xs : List Pc) (gs : List Int) (h : xs.length ≤ 1048576) (h2 : gs.length ≤ 1048576) : (WorstsOfG wi hi xs gs).1.length ≤ 1048576 := by
  unfold WorstsOfG
  split
  · rw [worsts_len]; exact h2
  · simp
theorem order_zero {wi hi : Int} {xs : List Pc} {gs : List Int} (h : orderG wi hi xs gs = 0) : BrdOk xs ∧ xs.length ≤ 40 ∧ gs.length = xs.length ∧ gs.Nodup ∧ ∀ g ∈ gs, 0 ≤ g ∧ g < xs.length := by
  unfold orderG at h
  split at h
  · rename_i hz
    split at h
    · rename_i h1
      have hz2 := built_zero hz
      have h3 := ordB_iff.1 h1.2
      exact ⟨hz2.1, by have := hz2.2; omega, h1.1, h3.1, fun g hg => by rw [← h1.1]; exact h3.2 g hg⟩
    · cases h
  · rename_i hz
    exact absurd h hz
theorem part_ok {n : Nat} {gs : List Int} (h1 : gs.Nodup) (h2 : ∀ g ∈ gs, 0 ≤ g ∧ g < n) (k : Nat) : (gs.take k).Nodup ∧ ∀ g ∈ gs.take k, 0 ≤ g ∧ g < n :=
  ⟨h1.sublist (List.take_sublist k gs), fun g hg => h2 g (List.mem_of_mem_take hg)⟩
theorem Ob.lencap {α : Type} {enc : α → List Value} {n : Nat} {E : TypeId} {b0 lo hi : Nat} {w : World} {A : Option Addr} {c : Nat} {xs : List α} (h : Ob enc n E b0 lo hi w A c xs) : xs.length ≤ c := by
  rcases h.own.2 with ⟨h1, h2⟩ | ⟨g, cap, cur, h1, _, _, h2, _⟩
  · omega
  · injection h1 with _ _ h3
    omega
theorem Ob.capmax {α : Type} {enc : α → List Value} {n : Nat} {E : TypeId} {b0 lo hi : Nat} {w : World} {A : Option Addr} {c : Nat} {xs : List α} (h : Ob enc n E b0 lo hi w A c xs) : c ≤ 9223372036854775807 := (own_caps h.own).2
theorem only_lenQ_I (b : Nat) (wi hi : Int) (a : Option Addr) (c : Nat) (xs : List Pc) (a2 : Option Addr) (c2 : Nat) (gs : List Int) (w : World) (hs : xs.length ≤ 1048576) (hb : BdA w b wi hi a xs.length c) (h : SlA Pc.enc 5 w a xs) (h2 : SlA en1 1 w a2 gs) (hgr : ∀ g ∈ gs, 0 ≤ g ∧ g < xs.length) (hgl : gs.length ≤ 1048576) (m : Nat) (hm : m = gs.length) :
    Calls Tryz.prog 33 #[.pointer (some ⟨b, 0, none⟩), .slice a2 m c2] w (ResBd w wi hi (onlyL xs gs)) := by
  subst hm
  exact only_I b wi hi a c xs a2 c2 gs w hs hb h h2 hgr hgl
set_option maxRecDepth 100000 in
set_option maxHeartbeats 2000000 in
theorem WorstsOf_S (w : World) (wi hi : Int) (wl : -128 ≤ wi) (wu : wi ≤ 127) (hl : -128 ≤ hi) (hu : hi ≤ 127) (a : Option Addr) (c : Nat) (xs : List Pc) (h : SlA Pc.enc 5 w a xs) (hac : a = none → c = 0) (ok : ∀ p ∈ xs, p.Ok) (hs : xs.length ≤ 1048576) (a2 : Option Addr) (c2 : Nat) (gs : List Int) (h2 : SlA en1 1 w a2 gs) (hac2 : a2 = none → c2 = 0) (hcap : gs.length ≤ c2) (hc63 : c2 ≤ 9223372036854775807) (ok2 : ∀ p ∈ gs, -9223372036854775808 ≤ p ∧ p ≤ 9223372036854775807) (hs2 : gs.length ≤ 1048576) :
    Calls Tryz.prog 9 #[.agg #[.int .i8 wi, .int .i8 hi, .slice a xs.length c], .slice a2 gs.length c2] w (fun e w' => ResS en1 1 2 w (WorstsOfG wi hi xs gs).1 (WorstsOfG wi hi xs gs).2 e w') := by
  obtain ⟨W0, hW0⟩ : ∃ W, W = w.alloc (.cells #[.int .i8 wi, .int .i8 hi, .slice a xs.length c] 27) := ⟨_, rfl⟩
  have B0 : Below w.heap.size w W0 := by rw [hW0]; exact (Below.refl _ _).alloc (Nat.le_refl _) _
  have hbd : BdA W0 w.heap.size wi hi a xs.length c := by rw [hW0]; exact bd_box _ _ _ _ _ _ _
  have HAs := hid (fun (hcc : c2 ≤ 9223372036854775807) => order_S w.heap.size wi hi a c xs a2 c2 gs W0 ⟨wl, wu, hl, hu⟩ hs hbd (h.below B0) ok (h2.below B0) hs2 hcap hcc)
  have HB0 := hid B0
  have HBD := hid (fun W (hb : Below W0.heap.size W0 W) => (⟨hbd.below hb hbd.lt, (h.below B0).below hb, (h2.below B0).below hb⟩ : BdA W w.heap.size wi hi a xs.length c ∧ SlA Pc.enc 5 W a xs ∧ SlA en1 1 W a2 gs))
  obtain ⟨v, hv⟩ : ∃ v, orderG wi hi xs gs = v := ⟨_, rfl⟩
  rw [hv] at HAs
  have hcc : c2 ≤ 9223372036854775807 := hc63
  · by_cases hv0 : v = 0
    · subst hv0
      obtain ⟨hB, hn, hgl, hnd, hr⟩ := order_zero hv
      have HG := hid (show WorstsOfG wi hi xs gs = (worstsL xs gs gs.length, 0) by unfold WorstsOfG; rw [if_pos hv])
      have hgn : gs.length ≤ 40 := by omega
      clear B0 hbd h h2 hv hgl
      go_enter Tryz.func9, Tryz.ntmps9
      go_wp2_with fail
      rw [← hW0]
      clear hW0
      refine (HAs.out hcc).mono ?_
      rintro e w1 ⟨rfl, hb1⟩
      have HB1 := hid hb1
      have HWo := hid (worsts_S w.heap.size wi hi a c xs a2 c2 gs w1 hB (by omega) (HBD.out w1 hb1).1 (HBD.out w1 hb1).2.1 (HBD.out w1 hb1).2.2 (by omega) hcap hcc)
      clear hb1
      go_wp2_with fail
      refine HWo.out.mono ?_
      rintro e w2 ⟨A2, k2, rfl, hb2, own2⟩
      have HB2 := hid (below_of HB1.out HB1.out.size hb2)
      have HL := hid (worsts_len xs gs gs.length)
      have HO2 := hid own2
      clear hb2 own2
      go_wp2_with fail
      refine bodyPost_ret (v := .tuple #[.slice A2 (worstsL xs gs gs.length).length k2, .int .i64 0]) (by simp [results, Tryz.results9, go_sem]) rfl ?_
      rw [HG.out]
      exact ⟨A2, k2, rfl, below_of HB0.out HB0.out.size HB2.out, own_low HO2.out (Nat.le_trans HB0.out.size HB1.out.size)⟩
    · have HG := hid (show WorstsOfG wi hi xs gs = ([], v) by unfold WorstsOfG; rw [hv, if_neg hv0])
      have hne : (v != 0) = true := by simpa using hv0
      clear B0 hbd h h2 hv hv0
      go_enter Tryz.func9, Tryz.ntmps9
      go_wp2_with fail
      rw [← hW0]
      clear hW0
      refine (HAs.out hcc).mono ?_
      rintro e w1 ⟨rfl, hb1⟩
      have HB1 := hid (below_of HB0.out HB0.out.size hb1)
      clear hb1
      go_wp2_with fail
      refine bodyPost_ret (v := .tuple #[.slice (some ⟨w1.heap.size, 0, none⟩) 0 0, .int .i64 v]) (by simp [results, Tryz.results9, go_sem]) rfl ?_
      rw [HG.out]
      exact ResS.empty HB1.out
set_option maxRecDepth 100000 in
set_option maxHeartbeats 4000000 in
theorem WorstsOf_I (w : World) (wi hi : Int) (wl : -128 ≤ wi) (wu : wi ≤ 127) (hl : -128 ≤ hi) (hu : hi ≤ 127) (a : Option Addr) (c : Nat) (xs : List Pc) (h : SlA Pc.enc 5 w a xs) (hac : a = none → c = 0) (ok : ∀ p ∈ xs, p.Ok) (hs : xs.length ≤ 1048576) (a2 : Option Addr) (c2 : Nat) (gs : List Int) (h2 : SlA en1 1 w a2 gs) (hac2 : a2 = none → c2 = 0) (hcap : gs.length ≤ c2) (hc63 : c2 ≤ 9223372036854775807) (ok2 : ∀ p ∈ gs, -9223372036854775808 ≤ p ∧ p ≤ 9223372036854775807) (hs2 : gs.length ≤ 1048576) :
    Calls Tryz.prog 8 #[.agg #[.int .i8 wi, .int .i8 hi, .slice a xs.length c], .slice a2 gs.length c2] w (fun e w' => ResS en1 1 2 w (WorstsOfG wi hi xs gs).1 (WorstsOfG wi hi xs gs).2 e w') := by
  obtain ⟨W0, hW0⟩ : ∃ W, W = w.alloc (.cells #[.int .i8 wi, .int .i8 hi, .slice a xs.length c] 27) := ⟨_, rfl⟩
  have B0 : Below w.heap.size w W0 := by rw [hW0]; exact (Below.refl _ _).alloc (Nat.le_refl _) _
  have hbd : BdA W0 w.heap.size wi hi a xs.length c := by rw [hW0]; exact bd_box _ _ _ _ _ _ _
  have d0 : W0.cell? ⟨w.heap.size, 0, none⟩ = some (.int .i8 wi) := hbd.c0
  have d1 : W0.cell? ⟨w.heap.size, 1, none⟩ = some (.int .i8 hi) := hbd.c1
  have d2 : W0.cell? ⟨w.heap.size, 2, none⟩ = some (.slice a xs.length c) := hbd.c2
  have HAs := hid (orderOk_I wi hi a c xs a2 c2 gs W0 ⟨wl, wu, hl, hu⟩ hs (h.below B0) ok (h2.below B0) hs2)
  have HB0 := hid B0
  have HBD := hid (fun W (hb : Below W0.heap.size W0 W) => (⟨hbd.below hb hbd.lt, (h.below B0).below hb, (h2.below B0).below hb⟩ : BdA W w.heap.size wi hi a xs.length c ∧ SlA Pc.enc 5 W a xs ∧ SlA en1 1 W a2 gs))
  obtain ⟨v, hv⟩ : ∃ v, orderG wi hi xs gs = v := ⟨_, rfl⟩
  rw [hv] at HAs
  by_cases hv0 : v = 0
  · subst hv0
    obtain ⟨hB, hn, hgl, hnd, hr⟩ := order_zero hv
    have HG := hid (show WorstsOfG wi hi xs gs = (worstsL xs gs gs.length, 0) by unfold WorstsOfG; rw [if_pos hv])
    have hgn : gs.length ≤ 40 := by omega
    clear B0 hbd h h2 hv hgl
    go_enter Tryz.func8, Tryz.ntmps8
    go_upto_region 1 with fail
    rw [← hW0]
    clear hW0
    go_wp2_with fail
    refine HAs.out.mono ?_
    rintro e w1 ⟨rfl, hb1⟩
    have HB1 := hid hb1
    have hz1 := hb1.size
    clear hb1 d0 d1 d2
    go_wp2_with fail
    go_loopw [7, 18] (fun o iv wr => ∃ (k : Nat) (A : Option Addr) (cc : Nat), k ≤ gs.length ∧ iv = .int .i64 k ∧ o = .slice A k cc ∧ wr.ownsRow w1.heap.size 2 1 (.slice A k cc) k ((worstsL xs gs k).flatMap en1) ∧ Below w1.heap.size w1 wr) (fun _ iv _ => gs.length - (intOf iv).toNat)
    case atStart => exact ⟨0, _, _, Nat.zero_le _, rfl, rfl, by simpa [worstsL] using World.ownsRow_lit w1 #[] 0 (Nat.le_refl _) (by simp [maxLen]) (by simp), (Below.refl _ _).alloc (Nat.le_refl _) _⟩
    case round =>
      obtain ⟨k, A, cc, hk, rfl, rfl, own, hbl⟩ := hrel
      have Ho := hid own
      have HB := hid hbl
      have hz := hbl.size
      by_cases hlt : k < gs.length
      · have hd : decide ((k : Int) < (gs.length : Int)) = true := by rw [decide_eq_true_iff]; omega
        have hw1 : IntKind.i64.wrap ((k : Int) + 1) = (k : Int) + 1 := IntWalk.i64_in _ (by omega)
        have hpo := part_ok hnd hr (k + 1)
        have hco := costW_only hB hpo.1 hpo.2
        have hbW := below_of HB1.out hz1 hbl
        have HON := hid (only_lenQ_I w.heap.size wi hi a c xs a2 c2 (gs.take (k + 1)) wr hs (HBD.out wr hbW).1 (HBD.out wr hbW).2.1 (take_en1 (HBD.out wr hbW).2.2 (k + 1)) hpo.2 (by rw [List.length_take]; omega) (k + 1) (by rw [List.length_take]; omega))
        have HK := hid hco.2
        have HW := hid (show worstsL xs gs (k + 1) = worstsL xs gs k ++ [costW (onlyL xs (gs.take (k + 1)))] by rw [hco.1]; rfl)
        have hb1 : (0 : Int) ≤ (k : Int) + 1 := by omega
        have hb2 : (k : Int) + 1 ≤ (c2 : Int) := by omega
        have htn : ((k : Int) + 1).toNat = k + 1 := by omega
        generalize onlyL xs (gs.take (k + 1)) = ys at *
        clear own hbl hpo hco hbW
        go_wp2_with fail
        refine HON.out.mono ?_
        rintro e w2 ⟨A2, cA, rfl, hb2', own2⟩
        have HC := hid (worstOf_I wi hi A2 cA ys w2 HK.out (SlA.of_own Pc.enc_length own2))
        have B2 := hid (below_of HB.out hz hb2')
        have O2 := hid (own_step Ho.out hb2')
        clear own2 hb2'
        go_wp2_with fail
        refine HC.out.mono ?_
        rintro e w4 ⟨rfl, hb4⟩
        have B4 := hid (below_of B2.out B2.out.size hb4)
        have O4 := hid (own_step O2.out hb4)
        have hz4 := B4.out.size
        clear hb4
        go_wp2_with (at_builtin; refine app_one (w := w4) 29 2 (.int .i64 0) 1 8 Tryz.underlying29 (by kernel_rfl) rfl (by decide) w1.heap.size _ k _ O4.out ?c1 (by decide) hz4 [.int .i64 (costW ys)] _ _ rfl rfl rfl _ rfl ?c3 rfl (by intro u hu; simp at hu; rcases hu with rfl; rfl) ?_)
        case c1 => omega
        case c3 => rfl
        intro A5 c5 w5 own5 hb5 hg5 hat5
        have HO5 := hid own5
        have HB5 := hid (B4.out.trans hb5)
        clear own5 hb5 hg5 hat5
        go_wp2_with fail
        refine ⟨⟨k + 1, A5, c5, by omega, by go_num, rfl, ?_, HB5.out⟩, by simp [intOf]; omega⟩
        rw [HW.out, List.flatMap_append]
        simpa [en1] using HO5.out
      · obtain rfl : k = gs.length := by omega
        have hd : decide ((gs.length : Int) < (gs.length : Int)) = false := by rw [decide_eq_false_iff_not]; omega
        clear own hbl
        go_wp2_with fail
        refine bodyPost_ret (v := .tuple #[.slice A gs.length cc, .int .i64 0]) (by simp [results, Tryz.results8, go_sem]) rfl ?_
        have hl := worsts_len xs gs gs.length
        rw [HG.out]
        exact ⟨A, cc, by rw [hl], below_of HB0.out HB0.out.size (below_of HB1.out hz1 HB.out), by rw [hl]; exact own_low Ho.out (Nat.le_trans HB0.out.size hz1)⟩
  · have HG := hid (show WorstsOfG wi hi xs gs = ([], v) by unfold WorstsOfG; rw [hv, if_neg hv0])
    have hne : (v != 0) = true := by simpa using hv0
    clear B0 hbd h h2 hv hv0
    go_enter Tryz.func8, Tryz.ntmps8
    go_upto_region 1 with fail
    rw [← hW0]
    clear hW0
    go_wp2_with fail
    refine HAs.out.mono ?_
    rintro e w1 ⟨rfl, hb1⟩
    have HB1 := hid (below_of HB0.out HB0.out.size hb1)
    clear hb1
    go_wp2_with fail
    refine bodyPost_ret (v := .tuple #[.slice none 0 0, .int .i64 v]) (by simp [results, Tryz.results8, go_sem]) rfl ?_
    rw [HG.out]
    exact ⟨none, 0, rfl, HB1.out, World.ownsRow_nil _ _ _ _⟩
theorem worsts_pos (xs : List Pc) (gs : List Int) : ∀ k, ∀ x ∈ worstsL xs gs k, 0 ≤ x
  | 0, x, h => absurd h List.not_mem_nil
  | k + 1, x, h => by
    unfold worstsL at h
    rcases List.mem_append.1 h with h | h
    · exact worsts_pos xs gs k x h
    · rw [List.mem_singleton] at h
      subst h
      exact (costW_in _).1
theorem max_peak {L : List Int} (h : L ≠ []) (hp : ∀ x ∈ L, 0 ≤ x) : Lib.maxOf (L.take L.length) = peakL L := by
  rw [List.take_of_length_le (Nat.le_refl _)]
  cases L with
  | nil => exact absurd rfl h
  | cons x l =>
    have h0 := hp x List.mem_cons_self
    unfold Lib.maxOf peakL
    rw [List.headD_cons, List.foldl_cons, List.foldl_cons, Int.max_self, show max (0 : Int) x = x by omega]
theorem maxN_I (a : Option Addr) (c : Nat) (L : List Int) (w : World) (hp : 0 < L.length) (h : SlA en1 1 w a L) :
    Calls Tryz.prog 36 #[.slice a L.length c] w fun e w' => e = .returned (.int .i64 (Lib.maxOf (L.take L.length))) ∧ w' = w := by
  have sa := h.small
  obtain ⟨b, o, rfl, hlt, hc⟩ := en1_cells h hp
  exact AnyG.slices_Max_int Tryz.maxN b o L.length c L w hp (Nat.le_refl _) (by omega) (fun j hj => by
    rw [List.getD_eq_getElem?_getD, List.getElem?_eq_getElem hj]
    exact hc j _ (List.getElem?_eq_getElem hj))
set_option maxRecDepth 100000 in
set_option maxHeartbeats 4000000 in
theorem PeakOf_I (w : World) (wi hi : Int) (wl : -128 ≤ wi) (wu : wi ≤ 127) (hl : -128 ≤ hi) (hu : hi ≤ 127) (a : Option Addr) (c : Nat) (xs : List Pc) (h : SlA Pc.enc 5 w a xs) (hac : a = none → c = 0) (ok : ∀ p ∈ xs, p.Ok) (hs : xs.length ≤ 1048576) (a2 : Option Addr) (c2 : Nat) (gs : List Int) (h2 : SlA en1 1 w a2 gs) (hac2 : a2 = none → c2 = 0) (hcap : gs.length ≤ c2) (hc63 : c2 ≤ 9223372036854775807) (ok2 : ∀ p ∈ gs, -9223372036854775808 ≤ p ∧ p ≤ 9223372036854775807) (hs2 : gs.length ≤ 1048576) :
    Calls Tryz.prog 10 #[.agg #[.int .i8 wi, .int .i8 hi, .slice a xs.length c], .slice a2 gs.length c2] w (fun e w' => e = .returned (.tuple #[.int .i64 (PeakOfG wi hi xs gs).1, .int .i64 (PeakOfG wi hi xs gs).2]) ∧ Below w.heap.size w w') := by
  obtain ⟨W0, hW0⟩ : ∃ W, W = w.alloc (.cells #[.int .i8 wi, .int .i8 hi, .slice a xs.length c] 27) := ⟨_, rfl⟩
  have B0 : Below w.heap.size w W0 := by rw [hW0]; exact (Below.refl _ _).alloc (Nat.le_refl _) _
  have hbd : BdA W0 w.heap.size wi hi a xs.length c := by rw [hW0]; exact bd_box _ _ _ _ _ _ _
  have d0 : W0.cell? ⟨w.heap.size, 0, none⟩ = some (.int .i8 wi) := hbd.c0
  have d1 : W0.cell? ⟨w.heap.size, 1, none⟩ = some (.int .i8 hi) := hbd.c1
  have d2 : W0.cell? ⟨w.heap.size, 2, none⟩ = some (.slice a xs.length c) := hbd.c2
  have HW := hid (WorstsOf_I W0 wi hi wl wu hl hu a c xs (h.below B0) hac ok hs a2 c2 gs (h2.below B0) hac2 hcap hc63 ok2 hs2)
  have HB0 := hid B0
  have HP := hid (show PeakOfG wi hi xs gs = (peakL (WorstsOfG wi hi xs gs).1, (WorstsOfG wi hi xs gs).2) by unfold PeakOfG WorstsOfG; split <;> rfl)
  have HE := hid (show (WorstsOfG wi hi xs gs).2 ≠ 0 → peakL (WorstsOfG wi hi xs gs).1 = 0 by unfold WorstsOfG; split <;> simp [peakL])
  have HPo := hid (show ∀ x ∈ (WorstsOfG wi hi xs gs).1, 0 ≤ x by unfold WorstsOfG; split; exact worsts_pos xs gs _; simp)
  obtain ⟨v, hv⟩ : ∃ v, (WorstsOfG wi hi xs gs).2 = v := ⟨_, rfl⟩
  obtain ⟨L, hL⟩ : ∃ L, (WorstsOfG wi hi xs gs).1 = L := ⟨_, rfl⟩
  rw [hv, hL] at HW HP HE
  rw [hL] at HPo
  clear B0 hbd h h2 hv hL
  by_cases hv0 : v = 0
  · subst hv0
    by_cases hL0 : L = []
    · subst hL0
      go_enter Tryz.func10, Tryz.ntmps10
      go_upto_region 1 with fail
      rw [← hW0]
      clear hW0
      go_wp2_with fail
      refine HW.out.mono ?_
      rintro e w1 ⟨A1, k1, rfl, hb1, own1⟩
      have HB1 := hid (below_of HB0.out HB0.out.size hb1)
      clear hb1 own1
      go_wp2_with fail
      refine bodyPost_ret (v := .tuple #[.int .i64 0, .int .i64 0]) (by simp [results, Tryz.results10, go_sem]) rfl ?_
      exact ⟨by rw [HP.out]; rfl, HB1.out⟩
    · have hpos : 0 < L.length := List.length_pos_iff.2 hL0
      have hl0 : ¬ (L.length = 0) := by omega
      have hl1 : (L.length == 0) = false := by simpa using hl0
      have HM := hid (max_peak hL0 HPo.out)
      clear hL0
      go_enter Tryz.func10, Tryz.ntmps10
      go_upto_region 1 with fail
      rw [← hW0]
      clear hW0
      go_wp2_with fail
      refine HW.out.mono ?_
      rintro e w1 ⟨A1, k1, rfl, hb1, own1⟩
      have HB1 := hid (below_of HB0.out HB0.out.size hb1)
      have HX := hid (maxN_I A1 k1 L w1 hpos (en1_row own1))
      clear hb1 own1
      go_wp2_with fail
      refine HX.out.mono ?_
      rintro e w2 ⟨rfl, rfl⟩
      rw [HM.out]
      go_wp2_with fail
      refine bodyPost_ret (v := .tuple #[.int .i64 (peakL L), .int .i64 0]) (by simp [results, Tryz.results10, go_sem]) rfl ?_
      exact ⟨by rw [HP.out], HB1.out⟩
  · have hne : (v != 0) = true := by simpa using hv0
    have HE0 := hid (HE.out hv0)
    clear hv0
    go_enter Tryz.func10, Tryz.ntmps10
    go_upto_region 1 with fail
    rw [← hW0]
    clear hW0
    go_wp2_with fail
    refine HW.out.mono ?_
    rintro e w1 ⟨A1, k1, rfl, hb1, own1⟩
    have HB1 := hid (below_of HB0.out HB0.out.size hb1)
    clear hb1 own1
    go_wp2_with fail
    refine bodyPost_ret (v := .tuple #[.int .i64 0, .int .i64 v]) (by simp [results, Tryz.results10, go_sem]) rfl ?_
    exact ⟨by rw [HP.out, HE0.out], HB1.out⟩
end Go.Proofs.YthhfndifcdiomaaGreat
