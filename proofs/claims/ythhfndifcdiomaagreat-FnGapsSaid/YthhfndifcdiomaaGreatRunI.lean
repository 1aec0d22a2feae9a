/-
  The program's run: how all pieces fall, out of rows of hits by ticks.
  Conditions: the board is right, the pushes are few.
-/
import Derived.Test.YthhfndifcdiomaaGreatRunB
import Derived.Test.YthhfndifcdiomaaGreatSortH
import Derived.Deep.RegionHeld3
namespace Go.Proofs.YthhfndifcdiomaaGreat
open Go.RowKit
set_option linter.unusedSimpArgs false
set_option linter.unusedVariables false

theorem has_Z (v : Int) (s : Nat) (w : World) (hv : 0 ≤ v ∧ v ≤ 255) (hs : s < 4) :
    Calls Tryz.prog 101 #[.int .u8 v, .int .i64 s] w fun e w' => e = .returned (.bool (bitI v s)) ∧ w = w' := by
  refine (has_I v s w (by omega) (by omega) (by omega) (by omega)).mono ?_
  rintro e w' ⟨rfl, rfl⟩
  exact ⟨ret_bool (by unfold bitI; rw [Int.toNat_natCast]), rfl⟩
set_option maxRecDepth 1000000 in
set_option maxHeartbeats 4000000 in
theorem run_I (w : World) (T : StgD) (hS : Stg w T) (hB : BrdOk T.xs) (la : Option Addr) (lc : Nat) (list : List Q4) (hL : SlA Q4.e64 4 w la list) (hl20 : list.length ≤ 20) (P : Nat → Nat → Nat) (hP : Psh list P T.xs.length 1000) :
    Calls Tryz.prog 119 #[.pointer (some ⟨T.sb, 0, none⟩), .slice la list.length lc] w fun e w' => ∃ g c, e = .returned (.slice (some ⟨g, 0, none⟩) T.xs.length c) ∧ Below w.heap.size w w' ∧ w.heap.size ≤ g ∧ FaA w' g T.xs.length (Fal (boOf T.xs) P) := by
  have hn : T.xs.length ≤ 200 := hB.n
  have HSt := hid hS
  have HL := hid hL
  have BD0 := (Below.refl w.heap.size w).drew
  have hmm := @run_makeMap Tryz.prog
  clear hS hL
  go_enter Tryz.func119, Tryz.ntmps119
  go_upto_region 1 with fail
  refine wp_region_held_drew (S := fun W => W.cell? ⟨T.sb, 0, none⟩ = some (.slice T.ap T.xs.length T.cp)) (by kernel_rfl) (cell_on BD0 HSt.out.c0) (fun hH0 => ?_)
  refine wpAnyH_take (i := 2) (oi := ⟨some 18, _, _, _, _, _⟩) (v := ?_) rfl (by kernel_rfl) (by kernel_rfl) (by kernel_rfl) (fun _ _ _ h => h) (Or.inl ⟨by kernel_rfl, ?_⟩) hH0 ?_
  rotate_left 1
  · (intro W hSw; (try dsimp only at hSw); go_simp; try with_reducible rfl)
  try simp only [Act.put, List.setIfInBounds_toArray, List.set_cons_zero, List.set_cons_succ]
  refine wpAnyH_take (i := 3) (oi := ⟨some 19, _, _, _, _, _⟩) (v := ?_) rfl (by kernel_rfl) (by kernel_rfl) (by kernel_rfl) (fun _ _ _ h => h) (Or.inl ⟨by kernel_rfl, ?_⟩) hH0 ?_
  rotate_left 1
  · (intro W hSw; (try dsimp only at hSw); go_simp; try with_reducible rfl)
  try simp only [Act.put, List.setIfInBounds_toArray, List.set_cons_zero, List.set_cons_succ]
  refine wpAnyH_take (i := 4) (oi := ⟨some 20, _, _, _, _, _⟩) (v := ?_) rfl (by kernel_rfl) (by kernel_rfl) (by kernel_rfl) (fun _ _ _ h => h) (Or.inl ⟨by kernel_rfl, ?_⟩) hH0 ?_
  rotate_left 1
  · (intro W hSw; (try dsimp only at hSw); go_simp; try with_reducible rfl)
  try simp only [Act.put, List.setIfInBounds_toArray, List.set_cons_zero, List.set_cons_succ]
  refine wpAnyH_take (i := 5) (oi := ⟨some 21, _, _, _, _, _⟩) (v := ?_) rfl (by kernel_rfl) (by kernel_rfl) (by kernel_rfl) (fun _ _ _ h => h) (Or.inl ⟨by kernel_rfl, ?_⟩) hH0 ?_
  rotate_left 1
  · (intro W hSw; (try dsimp only at hSw); go_simp; try with_reducible rfl)
  try simp only [Act.put, List.setIfInBounds_toArray, List.set_cons_zero, List.set_cons_succ]
  refine wpAnyH_take (i := 6) (oi := ⟨some 22, _, _, _, _, _⟩) (v := ?_) rfl (by kernel_rfl) (by kernel_rfl) (by kernel_rfl) (fun _ _ _ h => h) (Or.inl ⟨by kernel_rfl, ?_⟩) hH0 ?_
  rotate_left 1
  · (intro W hSw; (try dsimp only at hSw); go_simp; try with_reducible rfl)
  try simp only [Act.put, List.setIfInBounds_toArray, List.set_cons_zero, List.set_cons_succ]
  refine wpAnyH_ready (rs := [0]) (by kernel_rfl) (by simp) ?_
  refine AllReadyH.cons rfl (fun K hK => ?_) AllReadyH.nil
  go_simp
  refine (stay_I _).mono ?_
  rintro e w1 ⟨rfl, hb1⟩
  refine hK.out _ _ (cell_on hb1 hH0) (fun hH1 => ?_)
  clear hK K
  try simp only [Act.put, List.setIfInBounds_toArray, List.set_cons_zero, List.set_cons_succ]
  refine wpAnyH_ready (rs := [1]) (by kernel_rfl) (by simp) ?_
  refine AllReadyH.cons rfl (fun K hK => ?_) AllReadyH.nil
  go_simp
  have hb2 := ((Below.refl w1.heap.size w1).alloc (Nat.le_refl _) (.cells #[.int .i64 (-1), .int .i8 0, .int .i64 (-1)] 141))
  refine hK.out _ _ (cell_on hb2 hH1) (fun hH2 => ?_)
  clear hK K
  try simp only [Act.put, List.setIfInBounds_toArray, List.set_cons_zero, List.set_cons_succ]
  refine wpAnyH_ready (rs := [7]) (by kernel_rfl) (by simp) ?_
  refine AllReadyH.cons rfl (fun K hK => ?_) AllReadyH.nil
  go_simp
  refine (repeatF_I w1.heap.size T.xs.length _ (by omega) (fun j hj => ?_)).mono ?_
  · have : j = 0 ∨ j = 1 ∨ j = 2 := by omega
    rcases this with rfl | rfl | rfl <;> simp [go_sem, stayV]
  rintro e w2 ⟨og, oc, rfl, hb3, hog, hO, hz⟩
  refine hK.out _ _ (cell_on hb3 hH2) (fun hH3 => ?_)
  clear hK K
  try simp only [Act.put, List.setIfInBounds_toArray, List.set_cons_zero, List.set_cons_succ]
  refine wpAnyH_take (i := 8) (oi := ⟨some 5, _, _, _, _, _⟩) (v := ?_) rfl (by kernel_rfl) (by kernel_rfl) (by kernel_rfl) (fun _ _ _ h => h) (Or.inl ⟨by kernel_rfl, ?_⟩) hH3 ?_
  rotate_left 1
  · (intro W hSw; (try dsimp only at hSw); go_simp; try with_reducible rfl)
  try simp only [Act.put, List.setIfInBounds_toArray, List.set_cons_zero, List.set_cons_succ]
  refine wpAnyH_done (by kernel_rfl) ?_ _
  have BW : Below w.heap.size w w2 := below_then (below_then (below_then BD0 hb1) hb2) hb3
  go_wp2_with fail
  clear hmm
  have HQ := hid (que_start w2)
  obtain ⟨V, hV⟩ : ∃ V, V = ((((w2.alloc (Obj.map #[] 0)).alloc (Obj.cells #[.map (some w2.heap.size)] 177)).alloc (Obj.cells #[] 3)).alloc (Obj.cells #[.slice (some ⟨w2.heap.size + 1 + 1, 0, none⟩) 0 0] 136)) := ⟨_, rfl⟩
  have BV : Below w2.heap.size w2 V := by rw [hV]; exact ((((Below.refl _ _).alloc (Nat.le_refl _) _).alloc (by simp) _).alloc (by simp; omega) _).alloc (by simp; omega) _
  rw [← hV] at HQ ⊢
  have hog2 : w.heap.size ≤ og := by have := (below_then (below_then BD0 hb1) hb2).size; omega
  have hRP : RunP w V T.xs.length og w2.heap.size (w2.heap.size + 1) (w2.heap.size + 1 + 1 + 1) w2.heap.size 0 (fun _ => .slice none 0 0) (fun _ => []) (some ⟨w2.heap.size + 1 + 1, 0, none⟩) 0 [] (fun _ => big) :=
    ⟨below_of BW BW.size BV, hO.below BV hO.lt, hz.below BV hO.lt, HQ.out, by simp, hog2, hO.lt, BV.size⟩
  have HRP := hid hRP
  clear hRP HQ hV BV hO hz hH0 hH1 hH2 hH3 hb1 hb2 hb3 hog hog2 BD0
  have hww := BW.size
  generalize w2.heap.size = q0 at *
  clear BW
  go_loopw [29] (fun kv wr => ∃ k : Nat, k ≤ list.length ∧ kv = .int .i64 k ∧ RunA w wr T.xs.length list og q0 (q0 + 1) (q0 + 1 + 1 + 1) q0 k) (fun kv _ => list.length - (intOf kv).toNat)
  case atStart => exact ⟨0, Nat.zero_le _, rfl, 0, _, _, _, _, _, HRP.out, PQ.nil, Nat.le_refl _, fun t h => by simp⟩
  case round =>
    obtain ⟨k, hk, rfl, hA0⟩ := hrel
    clear HRP
    have HRA := hid hA0
    by_cases hlt : k < list.length
    · obtain ⟨nm, H, Q, A, c, tk, hR, hPQ, hnm, hQm⟩ := hA0
      have hd : decide ((k : Int) < (list.length : Int)) = true := by rw [decide_eq_true_iff]; omega
      have hki : (k : Int) < (list.length : Int) := by omega
      have e1 : list[k]? = some list[k] := List.getElem?_eq_getElem hlt
      obtain ⟨b1, o1, rfl, hb1, hc1⟩ := (HL.out.below hR.below).cells (by omega)
      obtain ⟨t, ht, ha, ⟨p, hp1, hp2⟩, ⟨s, hs1, hs2⟩, hd0, hd1⟩ := hP.ok list[k] (List.getElem_mem hlt)
      generalize list[k] = q at *
      obtain ⟨qa, qb, qc, qd⟩ := q
      dsimp only at ha hp1 hs1 hd0 hd1
      subst ha hp1 hs1
      have f0 : wr.cell? ⟨b1, o1 + k * 4, none⟩ = some (.int .i64 (t : Int)) := hc1 k _ e1 0 _ rfl
      have f1 : wr.cell? ⟨b1, o1 + k * 4 + 1, none⟩ = some (.int .i64 (p : Int)) := hc1 k _ e1 1 _ rfl
      have f2 : wr.cell? ⟨b1, o1 + k * 4 + 2, none⟩ = some (.int .i64 (s : Int)) := hc1 k _ e1 2 _ rfl
      have f3 : wr.cell? ⟨b1, o1 + k * 4 + 3, none⟩ = some (.int .i64 qd) := hc1 k _ e1 3 _ rfl
      have HAd := hid (fun W (hb : Below wr.heap.size wr W) => addQ_I W q0 (q0 + 1) (q0 + 1 + 1 + 1) q0 nm H Q A c tk (hR.que.below hb) hR.an (by have := hR.pos; have := hb.size; omega) t p s qd (by omega) (by have := hPQ.len; omega) (pq_sorted hPQ) (by omega) (by have := hPQ.qln t (Nat.zero_le _); omega))
      have HE1 := hid e1
      have HPQ := hid hPQ
      have HR := hid hR
      have HQm := hid hQm
      have HBA := hid (fun o => (Below.refl wr.heap.size wr).alloc (Nat.le_refl _) o)
      clear hR hPQ hQm e1 hc1 hb1
      go_wp2_with (go_at_call 133; refine (HAd.out _ (HBA.out _)).mono ?_; intro e w3 hadd; obtain ⟨rfl, H', A', c', hR', hF', hH'⟩ := HR.out.add (HBA.out _) hadd)
      have HR' := hid hR'
      clear hR' hF' hH' hadd
      go_wp2_with fail
      refine ⟨⟨k + 1, by omega, by go_num, nm + 1, H', _, A', c', _, HR'.out, HPQ.out.add (Nat.zero_le _) (by omega) ⟨rfl, ⟨p, rfl, hp2⟩, ⟨s, rfl, hs2⟩, hd0, hd1⟩, by omega, mem_add HQm.out HE1.out rfl⟩, by simp [intOf]; omega⟩
    · obtain rfl : k = list.length := by omega
      have hd : decide ((list.length : Int) < (list.length : Int)) = false := by rw [decide_eq_false_iff_not]; omega
      clear hA0
      go_wp2_with fail
      have HRO := hid (runO_start hP HRA.out)
      clear HRA hd
      go_loopw [37] (fun _ wr2 => RunO w wr2 T.xs P og q0 (q0 + 1) (q0 + 1 + 1 + 1) q0 list.length) (fun _ wr2 => headM wr2 (q0 + 1 + 1 + 1))
      case atStart => exact HRO.out
      case round =>
        clear HRO
        obtain ⟨lo, D, E, nm, H, Q, A, c, T1, hR, hPQ, hnm, hW⟩ := hrel
        rcases T1 with _ | ⟨t, T1⟩
        · have b1 : wr.cell? ⟨q0 + 1 + 1 + 1, 0, none⟩ = some (.slice A 0 c) := hR.que.b1
          have hd : decide (((0 : Nat) : Int) > 0) = false := by decide
          have HF := hid (wait_end (bo_ok hB) hP.top hW hPQ)
          have HR := hid hR
          clear hR hPQ hW
          go_wp2_with fail
          go_ret
          exact ⟨og, oc, rfl, HR.out.below, HR.out.pos.1, HR.out.out.congr (fun y _ => HF.out y)⟩
        · obtain ⟨g, o, rfl, ct, hcc, hg0, hg1⟩ := que_head hR.que
          have hmt : t ∈ t :: T1 := List.mem_cons_self
          have b0 := hR.que.b0
          have b1 : wr.cell? ⟨q0 + 1 + 1 + 1, 0, none⟩ = some (.slice (some ⟨g, o, none⟩) (T1.length + 1) c) := hR.que.b1
          have hd : decide (((T1.length + 1 : Nat) : Int) > 0) = true := by rw [decide_eq_true_iff]; omega
          have ht : t ≤ 1000 + 9 * cntB D T.xs.length := hPQ.top t hmt
          have hcb := cntB_le D T.xs.length
          obtain ⟨Ah, ch, hH⟩ := own_slice (hR.que.rows t)
          have hne : Q t ≠ [] := (hPQ.mem t (hPQ.low t hmt)).1 hmt
          have hrow := hR.que.rows t
          rw [hH] at hrow
          obtain ⟨gh, rfl⟩ := own_addr2 hrow (List.length_pos_iff.2 hne)
          have hlk := fun nn => (hR.que.below (below_drewN (Below.refl _ _) nn)).mp.look (t := t) (by omega)
          simp only [hH] at hlk
          have hfz := hR.que.zt 0
          have HR := hid hR
          have HPQ := hid hPQ
          have HW := hid hW
          have HROW := hid hrow
          have HH := hid hH
          have HNE := hid hne
          have hlt1 : T1.length + 1 ≤ 100000 := by have := hPQ.len; simp at this; omega
          have hcm : c ≤ 9223372036854775807 := by have := hR.que.tk.cm; unfold maxLen at this; omega
          clear hR hPQ hW hrow hH hne hmt
          go_wp2_with fail
          go_quiet (fail)
          go_upto_region 12 with fail
          go_cut [] from 45 to 46 (fun wx => ∃ (A2 : Option Addr) (c2 : Nat), (Que wx q0 (q0 + 1) (q0 + 1 + 1 + 1) q0 nm H Q A2 c2 T1 ∧ QFr wr wx (q0 + 1) (q0 + 1 + 1 + 1) q0 H (some ⟨g, o, none⟩) H A2) ∧ A2 ≠ none)
          case first =>
            by_cases hc1 : c = 1
            · subst hc1
              obtain rfl : T1 = [] := List.length_eq_zero_iff.1 (by omega)
              go_wp2_with fail
              go_meet
              exact ⟨_, 0, que_cut1 HR.out.que (below_drewN (Below.refl _ _) _), by simp⟩
            · go_wp2_with fail
              go_meet
              exact ⟨_, _, que_cut HR.out.que (below_drewN (Below.refl _ _) _) hc1, by simp⟩
          case rest =>
            obtain ⟨A2, c2, ⟨hQ2, hF2⟩, hA2⟩ := hcut
            have HR2 := hid (HR.out.moved hF2 hQ2 hA2)
            clear hlk hd b0 b1 ct hF2 hQ2
            have hrow2 := HR2.out.que.rows t
            rw [HH.out] at hrow2
            have hqn : (Q t).length ≤ 1000000 := by have := HPQ.out.qln t (HPQ.out.low t List.mem_cons_self); omega
            have HSo := hid (sort_I wc q0 gh (Q t).length ch (Q t) hrow2 rfl hqn)
            clear hrow2 HROW hfz hcc hg0 hg1 hlt1 hcm
            go_wp2_with (go_at_call 136; refine HSo.out.mono ?_; rintro e w3 ⟨rfl, ys, hp, hyl, hord, hrow3, hg3⟩)
            have hqt := HR2.out.que.turned (t := t) (ys := ys) (by rw [HH.out, hyl]; exact hrow3) (by rw [HH.out]; exact hg3)
            have HN0 := hid (show RunN w w3 T.xs P og q0 (q0 + 1) (q0 + 1 + 1 + 1) q0 list.length t (.slice (some ⟨gh, 0, none⟩) (Q t).length ch) ys 0 from ⟨D, E, nm, H, updQ Q t ys, A2, c2, T1, HR2.out.moved hqt.2 hqt.1 hA2, HPQ.out.head ys, hnm, wait_open HW.out HPQ.out hp, HH.out, by unfold updQ; rw [if_pos rfl], ht⟩)
            have HOK := hid (show ∀ q ∈ ys, HitOk T.xs.length t q from fun q hq => HPQ.out.frm t (HPQ.out.low t List.mem_cons_self) q (hp.mem_iff.1 hq))
            have HYL := hid hyl
            have HORD := hid hord
            clear HSo HR2 HW hrow3 hg3 hqt hp hyl hord hA2 HNE
            go_loopw [51] (fun kv wr3 => ∃ k : Nat, k ≤ (Q t).length ∧ kv = .int .i64 k ∧ RunN w wr3 T.xs P og q0 (q0 + 1) (q0 + 1 + 1 + 1) q0 list.length t (.slice (some ⟨gh, 0, none⟩) (Q t).length ch) ys k) (fun kv _ => (Q t).length - (intOf kv).toNat)
            case atStart => exact ⟨0, Nat.zero_le _, rfl, HN0.out⟩
            case round =>
              clear HN0
              obtain ⟨k, hk, rfl, D3, E3, nm3, H3, Q3, A3, c3, T3, hR3, hPQ3, hnm3, hW3, hHt3, hQt3, ht3⟩ := hrel
              by_cases hlt3 : k < (Q t).length
              · have e1 : ys[k]? = some (ys[k]'(by have := HYL.out; omega)) := List.getElem?_eq_getElem _
                have hok := HOK.out (ys[k]'(by have := HYL.out; omega)) (List.getElem_mem _)
                obtain ⟨q, hq⟩ : ∃ q, (ys[k]'(by have := HYL.out; omega)) = q := ⟨_, rfl⟩
                rw [hq] at e1 hok
                clear hq
                obtain ⟨ha, ⟨p, hp1, hp2⟩, ⟨s, hs1, hs2⟩, hd0, hd1⟩ := hok
                obtain ⟨qa, qb, qc, qd⟩ := q
                dsimp only at ha hp1 hs1 hd0 hd1
                subst ha hp1 hs1
                have hrow := hR3.que.rows t
                rw [hHt3, hQt3, HYL.out] at hrow
                obtain ⟨f0, f1, f2, f3⟩ := hit_cells hrow e1
                dsimp only at f0 f1 f2 f3
                have hd : decide ((k : Int) < ((Q t).length : Int)) = true := by rw [decide_eq_true_iff]; omega
                have hki : (k : Int) < ((Q t).length : Int) := by omega
                have hpi : (p : Int) < (T.xs.length : Int) := by omega
                obtain ⟨W5, hW5⟩ : ∃ W, W = wr.alloc (.cells #[.int .i64 (t : Int), .int .i64 (p : Int), .int .i64 (s : Int), .int .i64 qd] 161) := ⟨_, rfl⟩
                have B5 : Below wr.heap.size wr W5 := by rw [hW5]; exact (Below.refl _ _).alloc (Nat.le_refl _) _
                have hx5 : HBx W5 (q0 + 1) (q0 + 1 + 1 + 1) q0 H3 A3 wr.heap.size t p s qd := by rw [hW5]; exact hbx_made hR3.que _
                have hR5 := hR3.step B5
                obtain ⟨bb, bo, hb, ho, pb, po, cb, co, mv, cv, dv, hRd0, hhit, hmv, hcan, hcv, hdv, hdd⟩ := rdr_of HSt.out hB hp2 hs2
                have hRd := hRd0.below hR5.below
                have g1 := hx5.c1
                have g2 := hx5.c2
                have o0 := hR5.out.c0 p hp2
                have s1 := hRd.s1
                have cc := hRd.cc
                have HHas := hid (fun W => has_Z cv s W hcv hs2)
                rw [hcan] at HHas
                have HE1 := hid e1
                have HR5 := hid hR5
                have HPQ3 := hid hPQ3
                have HW3 := hid hW3
                have HHt3 := hid hHt3
                have HQt3 := hid hQt3
                have HX5 := hid hx5
                have hX5lt : q0 ≤ wr.heap.size := hR3.pos.2.2
                have HRd := hid hRd0
                have HHit := hid hhit
                clear hR3 hPQ3 hW3 hHt3 hQt3 hrow e1 hR5 hx5 hRd hRd0 hcan hhit
                by_cases hD : D3 p = true
                ·
                  rw [if_pos hD, keyT_lt (HW3.out.fnd.fin p hD)] at o0
                  generalize E3 p / 4 = v at o0
                  have n1 : ((v : Int) == (-1)) = false := by rw [beq_eq_false_iff_ne]; omega
                  have n2 : ((v : Int) != (-1)) = true := by simp [bne, n1]
                  have HW9 := hid (wait_skip HW3.out HE1.out (.inl hD))
                  clear hD B5
                  go_wp2_with fail
                  rw [← hW5]
                  clear hW5 f0 f1 f2 f3
                  go_quiet (fail)
                  go_wp2_with fail
                  exact ⟨⟨k + 1, by omega, by go_num, D3, E3, nm3, H3, Q3, A3, c3, T3, HR5.out.step (below_drewN (Below.refl _ _) _), HPQ3.out, hnm3, HW9.out, HHt3.out, HQt3.out, ht3⟩, by simp [intOf]; omega⟩
                · have hD' : D3 p = false := by simpa using hD
                  rw [if_neg hD, keyT_big] at o0
                  cases hcn : (boOf T.xs).can p s with
                  | false =>
                    rw [hcn] at HHas
                    have HW9 := hid (wait_skip HW3.out HE1.out (.inr hcn))
                    clear hD hD' B5 hcn
                    go_wp2_with fail
                    rw [← hW5]
                    clear hW5 f0 f1 f2 f3
                    go_quiet ((go_at_call 101; exact quiet_eqS (HHas.out _)))
                    go_wp2_with fail
                    exact ⟨⟨k + 1, by omega, by go_num, D3, E3, nm3, H3, Q3, A3, c3, T3, HR5.out.step (below_drewN (Below.refl _ _) _), HPQ3.out, hnm3, HW9.out, HHt3.out, HQt3.out, ht3⟩, by simp [intOf]; omega⟩
                  | true =>
                    rw [hcn] at HHas
                    have HD := hid hD'
                    have HCN := hid hcn
                    clear hD hD' B5 hcn
                    go_wp2_with fail
                    rw [← hW5]
                    clear hW5 f0 f1 f2 f3
                    go_quiet ((go_at_call 101; exact quiet_eqS (HHas.out _)))
                    go_upto_region 18 with fail
                    have B6 := below_drewN (Below.refl W5.heap.size W5) nq
                    obtain ⟨W6, hW6⟩ : ∃ W, W = W5.drewN nq := ⟨_, rfl⟩
                    rw [← hW6] at B6 ⊢
                    clear hW6
                    have hR6 := HR5.out.step B6
                    have hX6 := HX5.out.step B6
                    have c0 := hX6.c0
                    have c1 := hX6.c1
                    have c2 := hX6.c2
                    have c3 := hX6.c3
                    have q0' := hR6.out.c0 p hp2
                    have q1' := hR6.out.c1 p hp2
                    obtain ⟨q2, q2'⟩ := hR6.out.c2 p hp2
                    have z0 := hR6.zo (p * 3)
                    have z1 := hR6.zo (p * 3 + 1)
                    have z2 := hR6.zo (p * 3 + 2)
                    have hb2 : big = 1099511627776 := rfl
                    have hcb3 := cntB_le D3 T.xs.length
                    have kt : keyT (4 * t + s) = (t : Int) := by rw [keyT_lt (by omega)]; omega
                    have ks : keyS (4 * t + s) = (s : Int) := by rw [keyS_lt (by omega)]; omega
                    have hw8 : IntKind.i8.wrap (s : Int) = (s : Int) := by rcases four_of hs2 with rfl | rfl | rfl | rfl <;> decide
                    have hR7 := hR6.setO hp2 (4 * t + s) qd
                    have hX7 : HBx (set3 W6 og p (4 * t + s) qd) (q0 + 1) (q0 + 1 + 1 + 1) q0 H3 A3 wr.heap.size t p s qd := hX6.same ((set3_grown W6 og p (4 * t + s) qd).block _ hX6.lt (fun e => by have := HR5.out.pos; have := hX5lt; cases e; omega)) hX6.nq
                    unfold set3 at hR7 hX7
                    rw [kt, ks] at hR7 hX7
                    have HM0 := hid (show RunM w _ T.xs og q0 (q0 + 1) (q0 + 1 + 1 + 1) q0 nm3 (1000 + 9 * cntB D3 T.xs.length + 9) t (.slice (some ⟨gh, 0, none⟩) (Q t).length ch) ys (upd (fun y => if D3 y = true then E3 y else big) p (4 * t + s)) Q3 wr.heap.size p s qd 0 from ⟨nm3, H3, Q3, A3, _, T3, hR7, HPQ3.out.mono (Nat.le_refl _) (by omega), Nat.le_refl _, Acc.zero, HHt3.out, HQt3.out, hX7⟩)
                    obtain ⟨hbn, hgz⟩ : ∃ x, wr.heap.size = x := ⟨_, rfl⟩
                    rw [hgz] at HM0 c0 c1 c2 c3 ⊢
                    clear hR6 hX6 hR7 hX7 HPQ3 HR5 HX5 HHt3 HQt3 HHas B6 g1 g2 o0 s1 cc hgz
                    go_wp2_with fail
                    clear c0 c1 c2 c3 q0' q1' q2' z0 z1 z2
                    go_loopw [88] (fun sv wr4 => ∃ sd : Nat, sd ≤ 4 ∧ sv = .int .i64 sd ∧ RunM w wr4 T.xs og q0 (q0 + 1) (q0 + 1 + 1 + 1) q0 nm3 (1000 + 9 * cntB D3 T.xs.length + 9) t (.slice (some ⟨gh, 0, none⟩) (Q t).length ch) ys (upd (fun y => if D3 y = true then E3 y else big) p (4 * t + s)) Q3 hbn p s qd sd) (fun sv _ => 4 - (intOf sv).toNat)
                    case atStart => exact ⟨0, Nat.zero_le _, rfl, HM0.out⟩
                    case round =>
                      clear HM0
                      obtain ⟨sd, hsd4, rfl, hM⟩ := hrel
                      have HM := hid hM
                      by_cases hlt4 : sd < 4
                      · obtain ⟨nm4, H4, Qm, A4, c4, T4, hR4, hPQ4, hnm4, hAcc, hHt4, hQt4, hX4⟩ := hM
                        have hds : decide ((sd : Int) < 4) = true := by rw [decide_eq_true_iff]; omega
                        have hR := HRd.out.below hR4.below
                        have s0 := hR.s0
                        have s2 := hR.s2
                        have s3 := hR.s3
                        have be := hR.be sd hlt4
                        have c0 := hX4.c0
                        have c1 := hX4.c1
                        have c2 := hX4.c2
                        have hcc := hR.hc
                        have hpd := hR.pd
                        have hsi : (sd : Int) < 4 := by omega
                        have hss : (s : Int) < 4 := by omega
                        have HH := hid (fun W => has_Z mv sd W hmv hlt4)
                        rw [← HHit.out sd hlt4 HCN.out] at HH
                        rcases bo_near_cases T.xs p sd with ⟨k2, ek, nk, hk2⟩ | ⟨ek, nk⟩
                        · rw [ek] at be
                          have hge : decide ((k2 : Int) ≥ 0) = true := by rw [decide_eq_true_iff]; omega
                          cases hh : (boOf T.xs).hit p s sd with
                          | false =>
                            rw [hh] at HH
                            have HMN := hid (fun W (hb : Below wr.heap.size wr W) => runM_none HM.out hb (.inr hh))
                            clear hR4 hPQ4 hAcc hHt4 hQt4 hX4 hR hh
                            go_wp2_with fail
                            go_quiet (fail)
                            go_wp2_with fail
                            go_quiet ((go_at_call 101; exact (HH.out _).mono (fun _ _ hx => ⟨hx.1, _, hx.2.symm⟩)))
                            go_wp2_with fail
                            exact ⟨⟨sd + 1, by omega, by go_num, HMN.out _ (by first | exact below_drewN (below_drewN (Below.refl _ _) _) _ | exact below_drewN (Below.refl _ _) _)⟩, by simp [intOf]; omega⟩
                          | true =>
                            rw [hh] at HH
                            have hcb3 := cntB_le D3 T.xs.length
                            obtain ⟨d, hd9⟩ : ∃ d : Nat, (boOf T.xs).d p = d := ⟨_, rfl⟩
                            have hdv' : dv = (d : Int) := by rw [← hdd, hd9]
                            have HD9 := hid hd9
                            subst hdv'
                            have hpo : ((opp sd : Nat) : Int) = ((sd : Int) + 2) % 4 := by unfold opp; omega
                            have hcast : ((t + d : Nat) : Int) = (t : Int) + (d : Int) := by omega
                            have HAd := (fun W (hb : Below wr.heap.size wr W) => addQ_I W q0 (q0 + 1) (q0 + 1 + 1 + 1) q0 nm4 H4 Qm A4 c4 T4 (hR4.que.below hb) hR4.an (by have := hR4.pos; have := hb.size; omega) (t + d) k2 (opp sd : Nat) p (by omega) (by have := hPQ4.len; omega) (pq_sorted hPQ4) (by omega) (by have := hPQ4.qln (t + d) (by omega); omega))
                            simp only [hcast] at HAd
                            replace HAd := hid HAd
                            have HOP := hid (fun W => opp_I sd W (by omega))
                            rw [← hpo] at HOP
                            have hwl : IntKind.i64.wrap (d : Int) = (d : Int) := IntWalk.i64_in _ (by omega)
                            have hwt : IntKind.i64.wrap ((t : Int) + (d : Int)) = (t : Int) + (d : Int) := IntWalk.i64_in _ (by omega)
                            have HMA := hid (fun W W' (hb : Below wr.heap.size wr W) (e : Ending) (ha : AddP W q0 (q0 + 1) (q0 + 1 + 1 + 1) q0 nm4 H4 Qm A4 T4 (t + d) k2 (opp sd : Nat) p e W') => runM_add hR4 hPQ4 hnm4 hAcc hHt4 hQt4 hX4 hb nk hh hk2 (by omega) (by rw [hd9]) (by omega) (by omega) ha)
                            have hS0 : ∀ W, Below wr.heap.size wr W → W.cell? ⟨hbn, 0, none⟩ = some (.int .i64 (t : Int)) ∧ W.cell? ⟨hbn, 1, none⟩ = some (.int .i64 (p : Int)) ∧ W.cell? ⟨T.sb, 0, none⟩ = some (.slice (some ⟨pb, po, none⟩) T.xs.length T.cp) ∧ W.cell? ⟨pb, po + p * 5 + 4, none⟩ = some (.int .i8 (d : Int)) := fun W hb => ⟨cell_on hb c0, cell_on hb c1, cell_on hb s0, cell_on hb hpd⟩
                            have HS0 := hid hS0
                            clear hR4 hPQ4 hAcc hHt4 hQt4 hX4 hR hh hd9 hdd hS0
                            go_wp2_with fail
                            go_quiet (fail)
                            go_wp2_with fail
                            go_quiet ((go_at_call 101; exact (HH.out _).mono (fun _ _ hx => ⟨hx.1, _, hx.2.symm⟩)))
                            go_upto_region 24 with fail
                            rename_i n1
                            have B8 := below_drewN (below_drewN (Below.refl wr.heap.size wr) n1) nq
                            obtain ⟨W8, hW8⟩ : ∃ W, W = (wr.drewN n1).drewN nq := ⟨_, rfl⟩
                            rw [← hW8] at B8 ⊢
                            clear hW8 c0 c1 c2 s0 s2 s3 be hcc hpd
                            have B9 := B8.drew
                            refine wp_region_held_drew (S := fun W => W.cell? ⟨hbn, 0, none⟩ = some (.int .i64 (t : Int)) ∧ W.cell? ⟨hbn, 1, none⟩ = some (.int .i64 (p : Int)) ∧ W.cell? ⟨T.sb, 0, none⟩ = some (.slice (some ⟨pb, po, none⟩) T.xs.length T.cp) ∧ W.cell? ⟨pb, po + p * 5 + 4, none⟩ = some (.int .i8 (d : Int))) (by kernel_rfl) (HS0.out _ B9) (fun hH0 => ?_)
                            refine wpAnyH_take (i := 0) (oi := ⟨some 118, _, _, _, _, _⟩) (v := ?_) rfl (by kernel_rfl) (by kernel_rfl) (by kernel_rfl) (fun _ _ _ h => h) (Or.inl ⟨by kernel_rfl, ?_⟩) hH0 ?_
                            rotate_left 1
                            · (intro W hSw; (try dsimp only at hSw); go_simp; try with_reducible rfl)
                            try simp only [Act.put, List.setIfInBounds_toArray, List.set_cons_zero, List.set_cons_succ]
                            refine wpAnyH_take (i := 1) (oi := ⟨some 119, _, _, _, _, _⟩) (v := ?_) rfl (by kernel_rfl) (by kernel_rfl) (by kernel_rfl) (fun _ _ _ h => h) (Or.inl ⟨by kernel_rfl, ?_⟩) hH0 ?_
                            rotate_left 1
                            · (intro W hSw; (try dsimp only at hSw); go_simp; try with_reducible rfl)
                            try simp only [Act.put, List.setIfInBounds_toArray, List.set_cons_zero, List.set_cons_succ]
                            refine wpAnyH_take (i := 2) (oi := ⟨some 120, _, _, _, _, _⟩) (v := ?_) rfl (by kernel_rfl) (by kernel_rfl) (by kernel_rfl) (fun _ _ _ h => h) (Or.inl ⟨by kernel_rfl, ?_⟩) hH0 ?_
                            rotate_left 1
                            · (intro W hSw; (try dsimp only at hSw); go_simp; try with_reducible rfl)
                            try simp only [Act.put, List.setIfInBounds_toArray, List.set_cons_zero, List.set_cons_succ]
                            refine wpAnyH_take (i := 3) (oi := ⟨some 121, _, _, _, _, _⟩) (v := ?_) rfl (by kernel_rfl) (by kernel_rfl) (by kernel_rfl) (fun _ _ _ h => h) (Or.inl ⟨by kernel_rfl, ?_⟩) hH0 ?_
                            rotate_left 1
                            · (intro W hSw; (try dsimp only at hSw); go_simp; try with_reducible rfl)
                            try simp only [Act.put, List.setIfInBounds_toArray, List.set_cons_zero, List.set_cons_succ]
                            refine wpAnyH_take (i := 4) (oi := ⟨some 122, _, _, _, _, _⟩) (v := ?_) rfl (by kernel_rfl) (by kernel_rfl) (by kernel_rfl) (fun _ _ _ h => h) (Or.inl ⟨by kernel_rfl, ?_⟩) hH0 ?_
                            rotate_left 1
                            · (intro W hSw; (try dsimp only at hSw); go_simp; try with_reducible rfl)
                            try simp only [Act.put, List.setIfInBounds_toArray, List.set_cons_zero, List.set_cons_succ]
                            refine wpAnyH_take (i := 5) (oi := ⟨some 123, _, _, _, _, _⟩) (v := ?_) rfl (by kernel_rfl) (by kernel_rfl) (by kernel_rfl) (fun _ _ _ h => h) (Or.inl ⟨by kernel_rfl, ?_⟩) hH0 ?_
                            rotate_left 1
                            · (intro W hSw; (try dsimp only at hSw); go_simp; try with_reducible rfl)
                            try simp only [Act.put, List.setIfInBounds_toArray, List.set_cons_zero, List.set_cons_succ]
                            refine wpAnyH_take (i := 6) (oi := ⟨some 124, _, _, _, _, _⟩) (v := ?_) rfl (by kernel_rfl) (by kernel_rfl) (by kernel_rfl) (fun _ _ _ h => h) (Or.inl ⟨by kernel_rfl, ?_⟩) hH0 ?_
                            rotate_left 1
                            · (intro W hSw; (try dsimp only at hSw); go_simp; try with_reducible rfl)
                            try simp only [Act.put, List.setIfInBounds_toArray, List.set_cons_zero, List.set_cons_succ]
                            refine wpAnyH_take (i := 7) (oi := ⟨some 125, _, _, _, _, _⟩) (v := ?_) rfl (by kernel_rfl) (by kernel_rfl) (by kernel_rfl) (fun _ _ _ h => h) (Or.inl ⟨by kernel_rfl, ?_⟩) hH0 ?_
                            rotate_left 1
                            · (intro W hSw; (try dsimp only at hSw); go_simp; try with_reducible rfl)
                            try simp only [Act.put, List.setIfInBounds_toArray, List.set_cons_zero, List.set_cons_succ]
                            refine wpAnyH_take (i := 8) (oi := ⟨some 126, _, _, _, _, _⟩) (v := ?_) rfl (by kernel_rfl) (by kernel_rfl) (by kernel_rfl) (fun _ _ _ h => h) (Or.inl ⟨by kernel_rfl, ?_⟩) hH0 ?_
                            rotate_left 1
                            · (intro W hSw; (try dsimp only at hSw); go_simp; try with_reducible rfl)
                            try simp only [Act.put, List.setIfInBounds_toArray, List.set_cons_zero, List.set_cons_succ]
                            refine wpAnyH_take (i := 9) (oi := ⟨some 127, _, _, _, _, _⟩) (v := ?_) rfl (by kernel_rfl) (by kernel_rfl) (by kernel_rfl) (fun _ _ _ h => h) (Or.inl ⟨by kernel_rfl, ?_⟩) hH0 ?_
                            rotate_left 1
                            · (intro W hSw; (try dsimp only at hSw); go_simp; try with_reducible rfl)
                            try simp only [Act.put, List.setIfInBounds_toArray, List.set_cons_zero, List.set_cons_succ]
                            refine wpAnyH_take (i := 10) (oi := ⟨some 128, _, _, _, _, _⟩) (v := ?_) rfl (by kernel_rfl) (by kernel_rfl) (by kernel_rfl) (fun _ _ _ h => h) (Or.inl ⟨by kernel_rfl, ?_⟩) hH0 ?_
                            rotate_left 1
                            · (intro W hSw; (try dsimp only at hSw); go_simp; try with_reducible rfl)
                            try simp only [Act.put, List.setIfInBounds_toArray, List.set_cons_zero, List.set_cons_succ]
                            refine wpAnyH_take (i := 11) (oi := ⟨some 129, _, _, _, _, _⟩) (v := ?_) rfl (by kernel_rfl) (by kernel_rfl) (by kernel_rfl) (fun _ _ _ h => h) (Or.inl ⟨by kernel_rfl, ?_⟩) hH0 ?_
                            rotate_left 1
                            · (intro W hSw; (try dsimp only at hSw); go_simp; try with_reducible rfl)
                            try simp only [Act.put, List.setIfInBounds_toArray, List.set_cons_zero, List.set_cons_succ]
                            refine wpAnyH_take (i := 12) (oi := ⟨some 130, _, _, _, _, _⟩) (v := ?_) rfl (by kernel_rfl) (by kernel_rfl) (by kernel_rfl) (fun _ _ _ h => h) (Or.inl ⟨by kernel_rfl, ?_⟩) hH0 ?_
                            rotate_left 1
                            · (intro W hSw; (try dsimp only at hSw); go_simp; try with_reducible rfl)
                            try simp only [Act.put, List.setIfInBounds_toArray, List.set_cons_zero, List.set_cons_succ]
                            refine wpAnyH_take (i := 13) (oi := ⟨some 131, _, _, _, _, _⟩) (v := ?_) rfl (by kernel_rfl) (by kernel_rfl) (by kernel_rfl) (fun _ _ _ h => h) (Or.inl ⟨by kernel_rfl, ?_⟩) hH0 ?_
                            rotate_left 1
                            · (intro W hSw; (try dsimp only at hSw); go_simp; try with_reducible rfl)
                            try simp only [Act.put, List.setIfInBounds_toArray, List.set_cons_zero, List.set_cons_succ]
                            refine wpAnyH_take (i := 14) (oi := ⟨some 132, _, _, _, _, _⟩) (v := ?_) rfl (by kernel_rfl) (by kernel_rfl) (by kernel_rfl) (fun _ _ _ h => h) (Or.inl ⟨by kernel_rfl, ?_⟩) hH0 ?_
                            rotate_left 1
                            · (intro W hSw; (try dsimp only at hSw); go_simp; try with_reducible rfl)
                            try simp only [Act.put, List.setIfInBounds_toArray, List.set_cons_zero, List.set_cons_succ]
                            refine wpAnyH_take (i := 15) (oi := ⟨some 133, _, _, _, _, _⟩) (v := ?_) rfl (by kernel_rfl) (by kernel_rfl) (by kernel_rfl) (fun _ _ _ h => h) (Or.inl ⟨by kernel_rfl, ?_⟩) hH0 ?_
                            rotate_left 1
                            · (intro W hSw; (try dsimp only at hSw); go_simp; try with_reducible rfl)
                            try simp only [Act.put, List.setIfInBounds_toArray, List.set_cons_zero, List.set_cons_succ]
                            refine wpAnyH_take (i := 17) (oi := ⟨some 135, _, _, _, _, _⟩) (v := ?_) rfl (by kernel_rfl) (by kernel_rfl) (by kernel_rfl) (fun _ _ _ h => h) (Or.inl ⟨by kernel_rfl, ?_⟩) hH0 ?_
                            rotate_left 1
                            · (intro W hSw; (try dsimp only at hSw); go_simp; try with_reducible rfl)
                            try simp only [Act.put, List.setIfInBounds_toArray, List.set_cons_zero, List.set_cons_succ]
                            refine wpAnyH_take (i := 18) (oi := ⟨some 136, _, _, _, _, _⟩) (v := ?_) rfl (by kernel_rfl) (by kernel_rfl) (by kernel_rfl) (fun _ _ _ h => h) (Or.inl ⟨by kernel_rfl, ?_⟩) hH0 ?_
                            rotate_left 1
                            · (intro W hSw; (try dsimp only at hSw); go_simp; try with_reducible rfl)
                            try simp only [Act.put, List.setIfInBounds_toArray, List.set_cons_zero, List.set_cons_succ]
                            refine wpAnyH_ready (rs := [16]) (by kernel_rfl) (by simp) ?_
                            refine AllReadyH.cons rfl (fun K hK => ?_) AllReadyH.nil
                            go_simp
                            refine (HOP.out _).mono ?_
                            rintro e w8 ⟨rfl, rfl⟩
                            refine hK.out _ _ (hH0) (fun hH1 => ?_)
                            clear hK K
                            try simp only [Act.put, List.setIfInBounds_toArray, List.set_cons_zero, List.set_cons_succ]
                            refine wpAnyH_take (i := 19) (oi := ⟨some 137, _, _, _, _, _⟩) (v := ?_) rfl (by kernel_rfl) (by kernel_rfl) (by kernel_rfl) (fun _ _ _ h => h) (Or.inl ⟨by kernel_rfl, ?_⟩) hH1 ?_
                            rotate_left 1
                            · (intro W hSw; (try dsimp only at hSw); go_simp; try with_reducible rfl)
                            try simp only [Act.put, List.setIfInBounds_toArray, List.set_cons_zero, List.set_cons_succ]
                            refine wpAnyH_ready (rs := [20]) (by kernel_rfl) (by simp) ?_
                            refine AllReadyH.cons rfl (fun K hK => ?_) AllReadyH.nil
                            go_simp
                            refine (HAd.out _ B9).mono ?_
                            intro e w9 hadd
                            obtain ⟨rfl, hm9⟩ := HMA.out _ _ B9 e hadd
                            have hS9 : w9.cell? ⟨hbn, 0, none⟩ = some (.int .i64 (t : Int)) ∧ w9.cell? ⟨hbn, 1, none⟩ = some (.int .i64 (p : Int)) ∧ w9.cell? ⟨T.sb, 0, none⟩ = some (.slice (some ⟨pb, po, none⟩) T.xs.length T.cp) ∧ w9.cell? ⟨pb, po + p * 5 + 4, none⟩ = some (.int .i8 (d : Int)) := by
                              obtain ⟨_, _, _, _, _, _, r9, _, _, _, _, _, x9⟩ := hm9
                              exact ⟨x9.c0, x9.c1, (HRd.out.below r9.below).s0, (HRd.out.below r9.below).pd⟩
                            refine hK.out _ _ (hS9) (fun hH2 => ?_)
                            clear hK K
                            try simp only [Act.put, List.setIfInBounds_toArray, List.set_cons_zero, List.set_cons_succ]
                            refine wpAnyH_done (by kernel_rfl) ?_ _
                            go_wp2_with fail
                            exact ⟨⟨sd + 1, by omega, by go_num, hm9⟩, by simp [intOf]; omega⟩
                        · have hge : decide (nearI T.xs p sd ≥ 0) = false := by rw [decide_eq_false_iff_not]; omega
                          have HMN := hid (fun W (hb : Below wr.heap.size wr W) => runM_none HM.out hb (.inl nk))
                          clear hR4 hPQ4 hAcc hHt4 hQt4 hX4 hR nk ek
                          go_wp2_with fail
                          go_quiet (fail)
                          go_wp2_with fail
                          go_quiet (fail)
                          go_wp2_with fail
                          exact ⟨⟨sd + 1, by omega, by go_num, HMN.out _ (by first | exact below_drewN (below_drewN (Below.refl _ _) _) _ | exact below_drewN (Below.refl _ _) _)⟩, by simp [intOf]; omega⟩
                      · obtain rfl : sd = 4 := by omega
                        have hds : decide (((4 : Nat) : Int) < 4) = false := by decide
                        have HN := hid (runN_next hB hP.top HW3.out HE1.out HORD.out HD.out HCN.out hn hp2 hs2 ht3 hnm3 HM.out)
                        clear hM
                        go_wp2_with fail
                        exact ⟨⟨k + 1, by omega, by go_num, HN.out⟩, by simp [intOf]; omega⟩
              · obtain rfl : k = (Q t).length := by omega
                have hd : decide (((Q t).length : Int) < ((Q t).length : Int)) = false := by rw [decide_eq_false_iff_not]; omega
                have HR3 := hid hR3
                have HPQ3 := hid hPQ3
                have HW3 := hid (wait_shut (by rw [HYL.out]; exact hW3))
                clear hR3 hPQ3 hW3
                go_wp2_with fail
                exact ⟨⟨t + 1, D3, E3, nm3, H3, Q3, A3, c3, T3, HR3.out, HPQ3.out, hnm3, HW3.out⟩, runO_measure HR.out.que (by omega) HR3.out.que HPQ3.out.low⟩
end Go.Proofs.YthhfndifcdiomaaGreat
