/-
  The stage of a board, the program's: what its pieces hit, and their neighbours.
  Conditions: the board is right, at most 200 pieces.
-/
import Derived.Test.YthhfndifcdiomaaGreatStage2
namespace Go.Proofs.YthhfndifcdiomaaGreat
open Go.RowKit
set_option linter.unusedSimpArgs false
set_option linter.unusedVariables false

set_option maxRecDepth 100000 in
set_option maxHeartbeats 4000000 in
theorem stage_I (b : Nat) (wi hi : Int) (a : Option Addr) (c : Nat) (xs : List Pc) (w : World) (hb : BdA w b wi hi a xs.length c) (h : SlA Pc.enc 5 w a xs) (hn : xs.length ≤ 200) (ok : ∀ p ∈ xs, (0 ≤ p.x ∧ p.x ≤ 23) ∧ (0 ≤ p.y ∧ p.y ≤ 23) ∧ (0 ≤ p.k ∧ p.k ≤ 5) ∧ (0 ≤ p.t ∧ p.t ≤ 3) ∧ (1 ≤ p.d ∧ p.d ≤ 9))
    (one : ∀ (i j : Nat) p q, xs[i]? = some p → xs[j]? = some q → p.x = q.x → p.y = q.y → i = j) :
    Calls Tryz.prog 65 #[.pointer (some ⟨b, 0, none⟩)] w fun e w' => ∃ T : StgD, e = .returned (.pointer (some ⟨T.sb, 0, none⟩)) ∧ Below w.heap.size w w' ∧ T.xs = xs ∧ T.ap = a ∧ w.heap.size ≤ T.sb ∧ Stg w' T := by
  have hmm := @run_makeMap Tryz.prog
  have HX := hid h
  have HOK := hid ok
  have HONE := hid one
  obtain ⟨g9, g0, g1, g2⟩ := hb
  have sa := h.small
  clear h ok one
  go_enter Tryz.func65, Tryz.ntmps65
  go_wp2_with fail
  obtain ⟨W0, hW0⟩ : ∃ W, W = (w.alloc (.cells #[.slice a xs.length c, .slice none 0 0, .slice none 0 0, .slice none 0 0] 108)).alloc (.map #[] 0) := ⟨_, rfl⟩
  have B0 : Below w.heap.size w W0 := by rw [hW0]; exact ((Below.refl _ _).alloc (Nat.le_refl _) _).alloc (by simp) _
  have hz0 : W0.heap.size = w.heap.size + 2 := by rw [hW0]; simp
  have x0 : Wx W0 w.heap.size (.slice a xs.length c) (.slice none 0 0) (.slice none 0 0) (.slice none 0 0) := by
    rw [hW0]
    exact ⟨by simp [go_sem], by simp [go_sem], by simp [go_sem], by simp [go_sem]⟩
  have fz0 : Fz W0 w.heap.size := by rw [hW0]; exact (fz_made _ _ _).below ((Below.refl _ _).alloc (Nat.le_refl _) _) (by simp)
  have p0 : Plc W0 (w.heap.size + 1) 0 (plF xs 0) := by
    rw [hW0, plF_zero]
    have := plc_made (w.alloc (.cells #[.slice a xs.length c, .slice none 0 0, .slice none 0 0, .slice none 0 0] 108))
    simpa using this
  rw [← hW0]
  clear hW0
  go_loopw [29] (fun i wr => ∃ k : Nat, k ≤ xs.length ∧ i = .int .i64 k ∧ Below w.heap.size w wr ∧ Wx wr w.heap.size (.slice a xs.length c) (.slice none 0 0) (.slice none 0 0) (.slice none 0 0) ∧ Fz wr w.heap.size ∧ Plc wr (w.heap.size + 1) k (plF xs k)) (fun i _ => xs.length - (intOf i).toNat)
  case atStart => exact ⟨0, Nat.zero_le _, rfl, B0, x0, fz0, p0⟩
  case round =>
    obtain ⟨k, hk, rfl, hbl, hx, hf, hp⟩ := hrel
    clear B0 x0 fz0 p0
    by_cases hlt : k < xs.length
    · obtain ⟨b1, o1, rfl, hb1, hc1⟩ := (HX.out.below hbl).cells (by omega)
      have e1 : xs[k]? = some xs[k] := List.getElem?_eq_getElem hlt
      have okp := HOK.out _ (List.getElem_mem hlt)
      have HP := hid e1
      have HST := hid (plF_step e1 HONE.out)
      clear e1
      generalize xs[k] = p at *
      have f0 : wr.cell? ⟨b1, o1 + k * 5, none⟩ = some (.int .i8 p.x) := hc1 k _ HP.out 0 _ rfl
      have f1 : wr.cell? ⟨b1, o1 + k * 5 + 1, none⟩ = some (.int .i8 p.y) := hc1 k _ HP.out 1 _ rfl
      have f2 : wr.cell? ⟨b1, o1 + k * 5 + 2, none⟩ = some (.int .i8 p.k) := hc1 k _ HP.out 2 _ rfl
      have f3 : wr.cell? ⟨b1, o1 + k * 5 + 3, none⟩ = some (.int .i8 p.t) := hc1 k _ HP.out 3 _ rfl
      have f4 : wr.cell? ⟨b1, o1 + k * 5 + 4, none⟩ = some (.int .i8 p.d) := hc1 k _ HP.out 4 _ rfl
      have hz := hbl.size
      have B1 : Below wr.heap.size wr (wr.alloc (.cells #[.int .i8 p.x, .int .i8 p.y, .int .i8 p.k, .int .i8 p.t, .int .i8 p.d] 76)) := (Below.refl _ _).alloc (Nat.le_refl _) _
      have hpl := hp.lt
      obtain ⟨w3, hst, hs3, hg3⟩ := (hp.below B1 hpl).store (by unfold maxLen; omega) ⟨by omega, by omega⟩ ⟨by omega, by omega⟩ (k : Int) (by omega) (by omega) (x := p.x) (y := p.y)
      have HS3 := hid (hs3.congr fun u v _ _ => HST.out u v)
      have hxl := hx.lt
      have HX3 := hid ((hx.below B1 hxl).kept hg3 (by simp))
      have HF3 := hid (show Fz w3 w.heap.size from fun j => (hg3.frozen_far ⟨w.heap.size, j, none⟩ (by simp; omega) (by simp)).trans ((hf.below B1 hxl) j))
      have HB3 := hid ((below_of hbl hz B1).grown hg3 (Below.size (below_of hbl hz B1)) (fun j hj => by cases hj; omega))
      clear hs3 hp hx hf hc1 B1
      go_wp2_with fail
      exact ⟨⟨k + 1, by omega, by go_num, HB3.out, HX3.out, HF3.out, HS3.out⟩, by simp [intOf]; omega⟩
    · obtain rfl : k = xs.length := by omega
      have hz := hbl.size
      have hpl := hp.lt
      have y2 := cell_on hbl g2
      have HP := hid hp
      have HB := hid hbl
      have gr0 : Grw wr (w.heap.size + 2) w.heap.size a xs.length c xs 0 none 0 none 0 none 0 := ⟨hx, hf, World.ownsRow_nil _ _ _ _, World.ownsRow_nil _ _ _ _, World.ownsRow_nil _ _ _ _, by simp [Value.ownBlock], by simp [Value.ownBlock], by simp [Value.ownBlock]⟩
      have HG0 := hid gr0
      have hz2 : w.heap.size + 2 ≤ wr.heap.size := by omega
      clear hp hx hf hbl gr0
      go_wp2_with fail
      go_loopw [44] (fun i wx => ∃ (k : Nat) (A1 : Option Addr) (c1 : Nat) (A2 : Option Addr) (c2 : Nat) (A3 : Option Addr) (c3 : Nat), k ≤ xs.length ∧ i = .int .i64 k ∧ Below w.heap.size w wx ∧ w.heap.size + 2 ≤ wx.heap.size ∧ Plc wx (w.heap.size + 1) xs.length (plF xs xs.length) ∧ Grw wx (w.heap.size + 2) w.heap.size a xs.length c xs k A1 c1 A2 c2 A3 c3) (fun i _ => xs.length - (intOf i).toNat)
      case atStart => exact ⟨0, none, 0, none, 0, none, 0, Nat.zero_le _, rfl, HB.out, hz2, HP.out, HG0.out⟩
      case round =>
        obtain ⟨k, A1, c1, A2, c2, A3, c3, hk, rfl, hbl, hz3, hp, hgr⟩ := hrel
        clear HB HP HG0 hz2 y2 hpl hz
        obtain ⟨V, hV⟩ : ∃ V, V = wr := ⟨_, rfl⟩
        subst hV
        have HP := hid hp
        have HB := hid hbl
        have HG := hid hgr
        have hz := hbl.size
        have hpl := hp.lt
        clear hp hgr hbl
        by_cases hlt : k < xs.length
        · obtain ⟨b1, o1, rfl, hb1, hc1⟩ := (HX.out.below HB.out).cells (by omega)
          have e1 : xs[k]? = some xs[k] := List.getElem?_eq_getElem hlt
          have okp := HOK.out _ (List.getElem_mem hlt)
          have HNE := hid (show ∀ s : Nat, nearI xs k s = idxOf (atC (nx xs[k].x s) (ny xs[k].y s)) xs from fun s => by unfold nearI; rw [e1])
          have HPK := hid e1
          clear e1
          generalize xs[k] = p at *
          have f0 : V.cell? ⟨b1, o1 + k * 5, none⟩ = some (.int .i8 p.x) := hc1 k _ HPK.out 0 _ rfl
          have f1 : V.cell? ⟨b1, o1 + k * 5 + 1, none⟩ = some (.int .i8 p.y) := hc1 k _ HPK.out 1 _ rfl
          have f2 : V.cell? ⟨b1, o1 + k * 5 + 2, none⟩ = some (.int .i8 p.k) := hc1 k _ HPK.out 2 _ rfl
          have f3 : V.cell? ⟨b1, o1 + k * 5 + 3, none⟩ = some (.int .i8 p.t) := hc1 k _ HPK.out 3 _ rfl
          have f4 : V.cell? ⟨b1, o1 + k * 5 + 4, none⟩ = some (.int .i8 p.d) := hc1 k _ HPK.out 4 _ rfl
          clear hc1
          obtain ⟨W1, hW1⟩ : ∃ W, W = ((V.alloc (.cells #[.int .i8 p.x, .int .i8 p.y, .int .i8 p.k, .int .i8 p.t, .int .i8 p.d] 76)).alloc (.cells #[.int .u8 0, .int .u8 0, .int .u8 0, .int .u8 0] 111)).alloc (.cells #[.int .i64 0, .int .i64 0, .int .i64 0, .int .i64 0] 112) := ⟨_, rfl⟩
          have B1 : Below V.heap.size V W1 := by rw [hW1]; exact (((Below.refl _ _).alloc (Nat.le_refl _) _).alloc (by simp) _).alloc (by simp; omega) _
          have hz1 : W1.heap.size = V.heap.size + 3 := by rw [hW1]; simp
          have p0 : W1.cell? ⟨V.heap.size, 0, none⟩ = some (.int .i8 p.x) := by rw [hW1]; simp [go_sem]
          have p1 : W1.cell? ⟨V.heap.size, 1, none⟩ = some (.int .i8 p.y) := by rw [hW1]; simp [go_sem]
          have p2 : W1.cell? ⟨V.heap.size, 2, none⟩ = some (.int .i8 p.k) := by rw [hW1]; simp [go_sem]
          have p3 : W1.cell? ⟨V.heap.size, 3, none⟩ = some (.int .i8 p.t) := by rw [hW1]; simp [go_sem]
          have p4 : W1.cell? ⟨V.heap.size, 4, none⟩ = some (.int .i8 p.d) := by rw [hW1]; simp [go_sem]
          have h0 : ∀ j, j < 4 → W1.cell? ⟨V.heap.size + 1, j, none⟩ = some (.int .u8 (qTo (fun j => mx (hitsG p.k p.t j)) 0 j)) := by
            intro j hj
            rw [hW1]
            rcases four_of hj with rfl | rfl | rfl | rfl <;> simp [go_sem, qTo]
          have n0 : ∀ j, j < 4 → W1.cell? ⟨V.heap.size + 2, j, none⟩ = some (.int .i64 (qTo (fun j => nearI xs k j) 0 j)) := by
            intro j hj
            rw [hW1]
            rcases four_of hj with rfl | rfl | rfl | rfl <;> simp [go_sem, qTo]
          have fh : Fz W1 (V.heap.size + 1) := by rw [hW1]; exact fun j => by simp [go_sem]
          have fn : Fz W1 (V.heap.size + 2) := by rw [hW1]; exact fun j => by simp [go_sem]
          have HC0 := hid (And.intro h0 (And.intro n0 (And.intro fh fn)))
          have HB1 := hid B1
          clear h0 n0 fh fn B1
          go_wp2_with fail
          rw [← hW1]
          clear hW1
          go_loopw [9, 50] (fun cv iv wx => ∃ s : Nat, s ≤ 4 ∧ iv = .int .i64 s ∧ cv = .int .u8 (sBits (upTo (canP p) s)) ∧ Below V.heap.size V wx ∧ V.heap.size + 3 ≤ wx.heap.size ∧
            (wx.cell? ⟨V.heap.size, 0, none⟩ = some (.int .i8 p.x) ∧ wx.cell? ⟨V.heap.size, 1, none⟩ = some (.int .i8 p.y) ∧ wx.cell? ⟨V.heap.size, 2, none⟩ = some (.int .i8 p.k) ∧ wx.cell? ⟨V.heap.size, 3, none⟩ = some (.int .i8 p.t) ∧ wx.cell? ⟨V.heap.size, 4, none⟩ = some (.int .i8 p.d)) ∧
            (∀ j, j < 4 → wx.cell? ⟨V.heap.size + 1, j, none⟩ = some (.int .u8 (qTo (fun j => mx (hitsG p.k p.t j)) s j))) ∧ (∀ j, j < 4 → wx.cell? ⟨V.heap.size + 2, j, none⟩ = some (.int .i64 (qTo (fun j => nearI xs k j) s j))) ∧ Fz wx (V.heap.size + 1) ∧ Fz wx (V.heap.size + 2)) (fun _ iv _ => 4 - (intOf iv).toNat)
          case atStart => exact ⟨0, Nat.zero_le _, rfl, by rw [upTo_zero], HB1.out, by omega, ⟨p0, p1, p2, p3, p4⟩, HC0.out⟩
          case round =>
            obtain ⟨s, hs, rfl, rfl, hbx, hzx, ⟨q0, q1, q2, q3, q4⟩, hch, hcn, hfh, hfn⟩ := hrel
            clear p0 p1 p2 p3 p4 HC0 HB1 f0 f1 f2 f3 f4
            by_cases hs4 : s < 4
            · have hds : decide ((s : Int) < 4) = true := by rw [decide_eq_true_iff]; omega
              have hsi : (s : Int) < 4 := by omega
              have HF := hid (fun W => falls_I p.x p.y p.k p.t p.d s W okp.2.2.1 okp.2.2.2.1 (by omega))
              have HNX := hid (fun W => next_I p.x p.y s W (by omega) (by omega))
              have HPL := hid (fun W (hB : Below V.heap.size V W) => (HP.out.below hB hpl).look (x := nx p.x s) (y := ny p.y s) (by unfold nx; constructor <;> (split <;> (try split) <;> omega)) (by unfold ny; constructor <;> (split <;> (try split) <;> omega)))
              have hv : plF xs xs.length (nx p.x s) (ny p.y s) = nearI xs k s := by unfold plF; rw [List.take_length, HNE.out]
              rw [hv] at HPL
              obtain ⟨cs, hcs⟩ : ∃ x, canP p s = x := ⟨_, rfl⟩
              have hcs2 : decide (0 ≤ hitsG p.k p.t s) = cs := hcs
              obtain ⟨nv, hnv⟩ : ∃ x, nearI xs k s = x := ⟨_, rfl⟩
              have hnb : -1 ≤ nv ∧ nv ≤ 200 := by
                rw [← hnv, HNE.out]
                have := idxOf_le (atC (nx p.x s) (ny p.y s)) xs
                omega
              obtain ⟨mv, hmv⟩ : ∃ x, mx (hitsG p.k p.t s) = x := ⟨_, rfl⟩
              rw [hcs2, hmv] at HF
              rw [hnv] at HPL
              have HMV := hid hmv
              have HNV := hid hnv
              have HBX := hid hbx
              have HCH := hid hch
              have HCN := hid hcn
              have HFH := hid hfh
              have HFN := hid hfn
              have ec := hch s hs4
              have en := hcn s hs4
              cases cs
              · have HUB := hid (show sBits (upTo (canP p) s) = sBits (upTo (canP p) (s + 1)) by rw [upTo_no hcs])
                clear hcs hcs2 hmv hnv hch hcn hfh hfn hbx
                have hb3 : V.heap.size + 1 < wr.heap.size := by omega
                by_cases hnn : 0 ≤ nv
                · simp only [if_pos hnn, decide_eq_true hnn] at HPL
                  go_wp2_with fail
                  refine (HF.out _).mono ?_
                  rintro e W2 ⟨rfl, b2⟩
                  have z2 := b2.size
                  have q0' := cell_on b2 q0
                  have q1' := cell_on b2 q1
                  have ec' := cell_on b2 ec
                  have en' := cell_on b2 en
                  have fc' : W2.frozen? ⟨V.heap.size + 1, s, none⟩ = false := (b2.frozen (p := ⟨V.heap.size + 1, s, none⟩) (by simp; omega)).trans (HFH.out s)
                  have fn' : W2.frozen? ⟨V.heap.size + 2, s, none⟩ = false := (b2.frozen (p := ⟨V.heap.size + 2, s, none⟩) (by simp; omega)).trans (HFN.out s)
                  have bV := HBX.out.trans (b2.mono (by omega))
                  obtain ⟨W3, hW3⟩ : ∃ W, W = (W2.setCell ⟨V.heap.size + 1, s, none⟩ (.int .u8 mv)).setCell ⟨V.heap.size + 2, s, none⟩ (.int .i64 (-1)) := ⟨_, rfl⟩
                  have b3 : Below V.heap.size V W3 := by rw [hW3]; exact (bV.setCell (by simp) _).setCell (by simp) _
                  have z3 : W3.heap.size = W2.heap.size := by rw [hW3]; simp
                  have c3 : ∀ j, j < 4 → W3.cell? ⟨V.heap.size + 1, j, none⟩ = some (.int .u8 (qTo (fun j => mx (hitsG p.k p.t j)) (s + 1) j)) := by
                    intro j hj
                    rw [hW3, World.cell?_setCell_other _ _ _ _ (by intro x; simp only [Addr.mk.injEq] at x; omega)]
                    by_cases e : j = s
                    · subst e; rw [World.cell?_setCell_same _ _ _ ec', qTo_set, HMV.out]
                    · rw [World.cell?_setCell_other _ _ _ _ (by intro x; simp only [Addr.mk.injEq] at x; omega), qTo_ne _ e]; exact cell_on b2 (HCH.out j hj)
                  have n3 : ∀ j, j < 4 → j ≠ s → W3.cell? ⟨V.heap.size + 2, j, none⟩ = some (.int .i64 (qTo (fun j => nearI xs k j) (s + 1) j)) := by
                    intro j hj e
                    rw [hW3, World.cell?_setCell_other _ _ _ _ (by intro x; simp only [Addr.mk.injEq] at x; omega), World.cell?_setCell_other _ _ _ _ (by intro x; simp only [Addr.mk.injEq] at x; omega), qTo_ne _ e]; exact cell_on b2 (HCN.out j hj)
                  have e3 : W3.cell? ⟨V.heap.size + 2, s, none⟩ = some (.int .i64 (-1)) := by rw [hW3]; exact World.cell?_setCell_same _ _ _ ((World.cell?_setCell_other _ _ _ _ (by intro x; simp only [Addr.mk.injEq] at x; omega)).trans en')
                  have fh3 : Fz W3 (V.heap.size + 1) := by rw [hW3]; exact ((HFH.out.below b2 (by omega)).set _ _).set _ _
                  have fn3 : Fz W3 (V.heap.size + 2) := by rw [hW3]; exact ((HFN.out.below b2 (by omega)).set _ _).set _ _
                  have q30 : W3.cell? ⟨V.heap.size, 0, none⟩ = some (.int .i8 p.x) := by rw [hW3, World.cell?_setCell_other _ _ _ _ (by intro x; simp only [Addr.mk.injEq] at x; omega), World.cell?_setCell_other _ _ _ _ (by intro x; simp only [Addr.mk.injEq] at x; omega)]; exact cell_on b2 q0
                  have q31 : W3.cell? ⟨V.heap.size, 1, none⟩ = some (.int .i8 p.y) := by rw [hW3, World.cell?_setCell_other _ _ _ _ (by intro x; simp only [Addr.mk.injEq] at x; omega), World.cell?_setCell_other _ _ _ _ (by intro x; simp only [Addr.mk.injEq] at x; omega)]; exact cell_on b2 q1
                  have q32 : W3.cell? ⟨V.heap.size, 2, none⟩ = some (.int .i8 p.k) := by rw [hW3, World.cell?_setCell_other _ _ _ _ (by intro x; simp only [Addr.mk.injEq] at x; omega), World.cell?_setCell_other _ _ _ _ (by intro x; simp only [Addr.mk.injEq] at x; omega)]; exact cell_on b2 q2
                  have q33 : W3.cell? ⟨V.heap.size, 3, none⟩ = some (.int .i8 p.t) := by rw [hW3, World.cell?_setCell_other _ _ _ _ (by intro x; simp only [Addr.mk.injEq] at x; omega), World.cell?_setCell_other _ _ _ _ (by intro x; simp only [Addr.mk.injEq] at x; omega)]; exact cell_on b2 q3
                  have q34 : W3.cell? ⟨V.heap.size, 4, none⟩ = some (.int .i8 p.d) := by rw [hW3, World.cell?_setCell_other _ _ _ _ (by intro x; simp only [Addr.mk.injEq] at x; omega), World.cell?_setCell_other _ _ _ _ (by intro x; simp only [Addr.mk.injEq] at x; omega)]; exact cell_on b2 q4
                  have C3 := hid c3
                  have N3 := hid n3
                  have B3 := hid b3
                  have F3 := hid (And.intro fh3 fn3)
                  have HW3 := hid hW3
                  clear c3 n3 b3 fh3 fn3 hW3 bV
                  go_wp2_with fail
                  rw [← HW3.out]
                  clear HW3 ec' en' fc' fn' q0' q1'
                  refine (HNX.out _).mono ?_
                  rintro e w4 ⟨rfl, hb4⟩
                  have b4 := B3.out.trans (hb4.mono (by omega))
                  have z4 := hb4.size
                  have hlk := HPL.out _ b4
                  have e4 := cell_on hb4 e3
                  have f4 : w4.frozen? ⟨V.heap.size + 2, s, none⟩ = false := (hb4.frozen (p := ⟨V.heap.size + 2, s, none⟩) (by simp; omega)).trans (F3.out.2 s)
                  have B4 := hid b4
                  clear b4
                  go_wp2_with fail
                  refine ⟨⟨s + 1, by omega, by go_num, (by rw [HUB.out]), (B4.out.setCell (by dsimp only; omega) _), by simp; omega, ⟨?_, ?_, ?_, ?_, ?_⟩, fun j hj => ?_, fun j hj => ?_, (F3.out.1.below hb4 (by omega)).set _ _, (F3.out.2.below hb4 (by omega)).set _ _⟩, by simp [intOf]; omega⟩
                  · rw [World.cell?_setCell_other _ _ _ _ (by intro x; simp only [Addr.mk.injEq] at x; omega)]; exact cell_on hb4 q30
                  · rw [World.cell?_setCell_other _ _ _ _ (by intro x; simp only [Addr.mk.injEq] at x; omega)]; exact cell_on hb4 q31
                  · rw [World.cell?_setCell_other _ _ _ _ (by intro x; simp only [Addr.mk.injEq] at x; omega)]; exact cell_on hb4 q32
                  · rw [World.cell?_setCell_other _ _ _ _ (by intro x; simp only [Addr.mk.injEq] at x; omega)]; exact cell_on hb4 q33
                  · rw [World.cell?_setCell_other _ _ _ _ (by intro x; simp only [Addr.mk.injEq] at x; omega)]; exact cell_on hb4 q34
                  · rw [World.cell?_setCell_other _ _ _ _ (by intro x; simp only [Addr.mk.injEq] at x; omega)]; exact cell_on hb4 (C3.out j hj)
                  · by_cases e : j = s
                    · subst e; rw [World.cell?_setCell_same _ _ _ e4, qTo_set, HNV.out]
                    · rw [World.cell?_setCell_other _ _ _ _ (by intro x; simp only [Addr.mk.injEq] at x; omega)]; exact cell_on hb4 (N3.out j hj e)
                · simp only [if_neg hnn, decide_eq_false hnn] at HPL
                  go_wp2_with fail
                  refine (HF.out _).mono ?_
                  rintro e W2 ⟨rfl, b2⟩
                  have z2 := b2.size
                  have q0' := cell_on b2 q0
                  have q1' := cell_on b2 q1
                  have ec' := cell_on b2 ec
                  have en' := cell_on b2 en
                  have fc' : W2.frozen? ⟨V.heap.size + 1, s, none⟩ = false := (b2.frozen (p := ⟨V.heap.size + 1, s, none⟩) (by simp; omega)).trans (HFH.out s)
                  have fn' : W2.frozen? ⟨V.heap.size + 2, s, none⟩ = false := (b2.frozen (p := ⟨V.heap.size + 2, s, none⟩) (by simp; omega)).trans (HFN.out s)
                  have bV := HBX.out.trans (b2.mono (by omega))
                  obtain ⟨W3, hW3⟩ : ∃ W, W = (W2.setCell ⟨V.heap.size + 1, s, none⟩ (.int .u8 mv)).setCell ⟨V.heap.size + 2, s, none⟩ (.int .i64 (-1)) := ⟨_, rfl⟩
                  have b3 : Below V.heap.size V W3 := by rw [hW3]; exact (bV.setCell (by simp) _).setCell (by simp) _
                  have z3 : W3.heap.size = W2.heap.size := by rw [hW3]; simp
                  have c3 : ∀ j, j < 4 → W3.cell? ⟨V.heap.size + 1, j, none⟩ = some (.int .u8 (qTo (fun j => mx (hitsG p.k p.t j)) (s + 1) j)) := by
                    intro j hj
                    rw [hW3, World.cell?_setCell_other _ _ _ _ (by intro x; simp only [Addr.mk.injEq] at x; omega)]
                    by_cases e : j = s
                    · subst e; rw [World.cell?_setCell_same _ _ _ ec', qTo_set, HMV.out]
                    · rw [World.cell?_setCell_other _ _ _ _ (by intro x; simp only [Addr.mk.injEq] at x; omega), qTo_ne _ e]; exact cell_on b2 (HCH.out j hj)
                  have n3 : ∀ j, j < 4 → j ≠ s → W3.cell? ⟨V.heap.size + 2, j, none⟩ = some (.int .i64 (qTo (fun j => nearI xs k j) (s + 1) j)) := by
                    intro j hj e
                    rw [hW3, World.cell?_setCell_other _ _ _ _ (by intro x; simp only [Addr.mk.injEq] at x; omega), World.cell?_setCell_other _ _ _ _ (by intro x; simp only [Addr.mk.injEq] at x; omega), qTo_ne _ e]; exact cell_on b2 (HCN.out j hj)
                  have e3 : W3.cell? ⟨V.heap.size + 2, s, none⟩ = some (.int .i64 (-1)) := by rw [hW3]; exact World.cell?_setCell_same _ _ _ ((World.cell?_setCell_other _ _ _ _ (by intro x; simp only [Addr.mk.injEq] at x; omega)).trans en')
                  have fh3 : Fz W3 (V.heap.size + 1) := by rw [hW3]; exact ((HFH.out.below b2 (by omega)).set _ _).set _ _
                  have fn3 : Fz W3 (V.heap.size + 2) := by rw [hW3]; exact ((HFN.out.below b2 (by omega)).set _ _).set _ _
                  have q30 : W3.cell? ⟨V.heap.size, 0, none⟩ = some (.int .i8 p.x) := by rw [hW3, World.cell?_setCell_other _ _ _ _ (by intro x; simp only [Addr.mk.injEq] at x; omega), World.cell?_setCell_other _ _ _ _ (by intro x; simp only [Addr.mk.injEq] at x; omega)]; exact cell_on b2 q0
                  have q31 : W3.cell? ⟨V.heap.size, 1, none⟩ = some (.int .i8 p.y) := by rw [hW3, World.cell?_setCell_other _ _ _ _ (by intro x; simp only [Addr.mk.injEq] at x; omega), World.cell?_setCell_other _ _ _ _ (by intro x; simp only [Addr.mk.injEq] at x; omega)]; exact cell_on b2 q1
                  have q32 : W3.cell? ⟨V.heap.size, 2, none⟩ = some (.int .i8 p.k) := by rw [hW3, World.cell?_setCell_other _ _ _ _ (by intro x; simp only [Addr.mk.injEq] at x; omega), World.cell?_setCell_other _ _ _ _ (by intro x; simp only [Addr.mk.injEq] at x; omega)]; exact cell_on b2 q2
                  have q33 : W3.cell? ⟨V.heap.size, 3, none⟩ = some (.int .i8 p.t) := by rw [hW3, World.cell?_setCell_other _ _ _ _ (by intro x; simp only [Addr.mk.injEq] at x; omega), World.cell?_setCell_other _ _ _ _ (by intro x; simp only [Addr.mk.injEq] at x; omega)]; exact cell_on b2 q3
                  have q34 : W3.cell? ⟨V.heap.size, 4, none⟩ = some (.int .i8 p.d) := by rw [hW3, World.cell?_setCell_other _ _ _ _ (by intro x; simp only [Addr.mk.injEq] at x; omega), World.cell?_setCell_other _ _ _ _ (by intro x; simp only [Addr.mk.injEq] at x; omega)]; exact cell_on b2 q4
                  have C3 := hid c3
                  have N3 := hid n3
                  have B3 := hid b3
                  have F3 := hid (And.intro fh3 fn3)
                  have HW3 := hid hW3
                  clear c3 n3 b3 fh3 fn3 hW3 bV
                  go_wp2_with fail
                  rw [← HW3.out]
                  clear HW3 ec' en' fc' fn' q0' q1'
                  refine (HNX.out _).mono ?_
                  rintro e w4 ⟨rfl, hb4⟩
                  have b4 := B3.out.trans (hb4.mono (by omega))
                  have z4 := hb4.size
                  have hlk := HPL.out _ b4
                  have e4 := cell_on hb4 e3
                  have f4 : w4.frozen? ⟨V.heap.size + 2, s, none⟩ = false := (hb4.frozen (p := ⟨V.heap.size + 2, s, none⟩) (by simp; omega)).trans (F3.out.2 s)
                  have B4 := hid b4
                  clear b4
                  go_wp2_with fail
                  refine ⟨⟨s + 1, by omega, by go_num, (by rw [HUB.out]), B4.out, by omega, ⟨cell_on hb4 q30, cell_on hb4 q31, cell_on hb4 q32, cell_on hb4 q33, cell_on hb4 q34⟩, fun j hj => cell_on hb4 (C3.out j hj), fun j hj => ?_, F3.out.1.below hb4 (by omega), F3.out.2.below hb4 (by omega)⟩, by simp [intOf]; omega⟩
                  by_cases e : j = s
                  · subst e; rw [e4, qTo_set, HNV.out, show nv = -1 by omega]
                  · exact cell_on hb4 (N3.out j hj e)
              · have HUB := hid (show bits BinOp.or IntKind.u8 (sBits (upTo (canP p) s)) (orB 0 s) = sBits (upTo (canP p) (s + 1)) by rw [orB_zero hs4]; exact upTo_yes hs4 hcs)
                clear hcs hcs2 hmv hnv hch hcn hfh hfn hbx
                have hb3 : V.heap.size + 1 < wr.heap.size := by omega
                by_cases hnn : 0 ≤ nv
                · simp only [if_pos hnn, decide_eq_true hnn] at HPL
                  go_wp2_with fail
                  refine (HF.out _).mono ?_
                  rintro e w1 ⟨rfl, hb1⟩
                  obtain ⟨W2, hW2⟩ : ∃ W, W = w1.alloc (.cells #[.int .i64 (s : Int)] 3) := ⟨_, rfl⟩
                  have b2 : Below wr.heap.size wr W2 := by rw [hW2]; exact hb1.alloc hb1.size _
                  have hs2 : W2.cell? ⟨w1.heap.size, 0, none⟩ = some (.int .i64 (s : Int)) := by rw [hW2]; simp [go_sem]
                  have HSD := hid (side1_I w1.heap.size s W2 (by omega) hs2)
                  have z2 := b2.size
                  have q0' := cell_on b2 q0
                  have q1' := cell_on b2 q1
                  have ec' := cell_on b2 ec
                  have en' := cell_on b2 en
                  have fc' : W2.frozen? ⟨V.heap.size + 1, s, none⟩ = false := (b2.frozen (p := ⟨V.heap.size + 1, s, none⟩) (by simp; omega)).trans (HFH.out s)
                  have fn' : W2.frozen? ⟨V.heap.size + 2, s, none⟩ = false := (b2.frozen (p := ⟨V.heap.size + 2, s, none⟩) (by simp; omega)).trans (HFN.out s)
                  have bV := HBX.out.trans (b2.mono (by omega))
                  obtain ⟨W3, hW3⟩ : ∃ W, W = (W2.setCell ⟨V.heap.size + 1, s, none⟩ (.int .u8 mv)).setCell ⟨V.heap.size + 2, s, none⟩ (.int .i64 (-1)) := ⟨_, rfl⟩
                  have b3 : Below V.heap.size V W3 := by rw [hW3]; exact (bV.setCell (by simp) _).setCell (by simp) _
                  have z3 : W3.heap.size = W2.heap.size := by rw [hW3]; simp
                  have c3 : ∀ j, j < 4 → W3.cell? ⟨V.heap.size + 1, j, none⟩ = some (.int .u8 (qTo (fun j => mx (hitsG p.k p.t j)) (s + 1) j)) := by
                    intro j hj
                    rw [hW3, World.cell?_setCell_other _ _ _ _ (by intro x; simp only [Addr.mk.injEq] at x; omega)]
                    by_cases e : j = s
                    · subst e; rw [World.cell?_setCell_same _ _ _ ec', qTo_set, HMV.out]
                    · rw [World.cell?_setCell_other _ _ _ _ (by intro x; simp only [Addr.mk.injEq] at x; omega), qTo_ne _ e]; exact cell_on b2 (HCH.out j hj)
                  have n3 : ∀ j, j < 4 → j ≠ s → W3.cell? ⟨V.heap.size + 2, j, none⟩ = some (.int .i64 (qTo (fun j => nearI xs k j) (s + 1) j)) := by
                    intro j hj e
                    rw [hW3, World.cell?_setCell_other _ _ _ _ (by intro x; simp only [Addr.mk.injEq] at x; omega), World.cell?_setCell_other _ _ _ _ (by intro x; simp only [Addr.mk.injEq] at x; omega), qTo_ne _ e]; exact cell_on b2 (HCN.out j hj)
                  have e3 : W3.cell? ⟨V.heap.size + 2, s, none⟩ = some (.int .i64 (-1)) := by rw [hW3]; exact World.cell?_setCell_same _ _ _ ((World.cell?_setCell_other _ _ _ _ (by intro x; simp only [Addr.mk.injEq] at x; omega)).trans en')
                  have fh3 : Fz W3 (V.heap.size + 1) := by rw [hW3]; exact ((HFH.out.below b2 (by omega)).set _ _).set _ _
                  have fn3 : Fz W3 (V.heap.size + 2) := by rw [hW3]; exact ((HFN.out.below b2 (by omega)).set _ _).set _ _
                  have q30 : W3.cell? ⟨V.heap.size, 0, none⟩ = some (.int .i8 p.x) := by rw [hW3, World.cell?_setCell_other _ _ _ _ (by intro x; simp only [Addr.mk.injEq] at x; omega), World.cell?_setCell_other _ _ _ _ (by intro x; simp only [Addr.mk.injEq] at x; omega)]; exact cell_on b2 q0
                  have q31 : W3.cell? ⟨V.heap.size, 1, none⟩ = some (.int .i8 p.y) := by rw [hW3, World.cell?_setCell_other _ _ _ _ (by intro x; simp only [Addr.mk.injEq] at x; omega), World.cell?_setCell_other _ _ _ _ (by intro x; simp only [Addr.mk.injEq] at x; omega)]; exact cell_on b2 q1
                  have q32 : W3.cell? ⟨V.heap.size, 2, none⟩ = some (.int .i8 p.k) := by rw [hW3, World.cell?_setCell_other _ _ _ _ (by intro x; simp only [Addr.mk.injEq] at x; omega), World.cell?_setCell_other _ _ _ _ (by intro x; simp only [Addr.mk.injEq] at x; omega)]; exact cell_on b2 q2
                  have q33 : W3.cell? ⟨V.heap.size, 3, none⟩ = some (.int .i8 p.t) := by rw [hW3, World.cell?_setCell_other _ _ _ _ (by intro x; simp only [Addr.mk.injEq] at x; omega), World.cell?_setCell_other _ _ _ _ (by intro x; simp only [Addr.mk.injEq] at x; omega)]; exact cell_on b2 q3
                  have q34 : W3.cell? ⟨V.heap.size, 4, none⟩ = some (.int .i8 p.d) := by rw [hW3, World.cell?_setCell_other _ _ _ _ (by intro x; simp only [Addr.mk.injEq] at x; omega), World.cell?_setCell_other _ _ _ _ (by intro x; simp only [Addr.mk.injEq] at x; omega)]; exact cell_on b2 q4
                  have C3 := hid c3
                  have N3 := hid n3
                  have B3 := hid b3
                  have F3 := hid (And.intro fh3 fn3)
                  have HW3 := hid hW3
                  clear c3 n3 b3 fh3 fn3 hW3 bV
                  go_wp2_with fail
                  rw [← hW2]
                  clear hW2
                  refine HSD.out.mono ?_
                  rintro e w9 ⟨rfl, rfl⟩
                  go_wp2_with fail
                  rw [← HW3.out]
                  clear HW3 ec' en' fc' fn' q0' q1'
                  refine (HNX.out _).mono ?_
                  rintro e w4 ⟨rfl, hb4⟩
                  have b4 := B3.out.trans (hb4.mono (by omega))
                  have z4 := hb4.size
                  have hlk := HPL.out _ b4
                  have e4 := cell_on hb4 e3
                  have f4 : w4.frozen? ⟨V.heap.size + 2, s, none⟩ = false := (hb4.frozen (p := ⟨V.heap.size + 2, s, none⟩) (by simp; omega)).trans (F3.out.2 s)
                  have B4 := hid b4
                  clear b4
                  go_wp2_with fail
                  refine ⟨⟨s + 1, by omega, by go_num, (by rw [HUB.out]), (B4.out.setCell (by dsimp only; omega) _), by simp; omega, ⟨?_, ?_, ?_, ?_, ?_⟩, fun j hj => ?_, fun j hj => ?_, (F3.out.1.below hb4 (by omega)).set _ _, (F3.out.2.below hb4 (by omega)).set _ _⟩, by simp [intOf]; omega⟩
                  · rw [World.cell?_setCell_other _ _ _ _ (by intro x; simp only [Addr.mk.injEq] at x; omega)]; exact cell_on hb4 q30
                  · rw [World.cell?_setCell_other _ _ _ _ (by intro x; simp only [Addr.mk.injEq] at x; omega)]; exact cell_on hb4 q31
                  · rw [World.cell?_setCell_other _ _ _ _ (by intro x; simp only [Addr.mk.injEq] at x; omega)]; exact cell_on hb4 q32
                  · rw [World.cell?_setCell_other _ _ _ _ (by intro x; simp only [Addr.mk.injEq] at x; omega)]; exact cell_on hb4 q33
                  · rw [World.cell?_setCell_other _ _ _ _ (by intro x; simp only [Addr.mk.injEq] at x; omega)]; exact cell_on hb4 q34
                  · rw [World.cell?_setCell_other _ _ _ _ (by intro x; simp only [Addr.mk.injEq] at x; omega)]; exact cell_on hb4 (C3.out j hj)
                  · by_cases e : j = s
                    · subst e; rw [World.cell?_setCell_same _ _ _ e4, qTo_set, HNV.out]
                    · rw [World.cell?_setCell_other _ _ _ _ (by intro x; simp only [Addr.mk.injEq] at x; omega)]; exact cell_on hb4 (N3.out j hj e)
                · simp only [if_neg hnn, decide_eq_false hnn] at HPL
                  go_wp2_with fail
                  refine (HF.out _).mono ?_
                  rintro e w1 ⟨rfl, hb1⟩
                  obtain ⟨W2, hW2⟩ : ∃ W, W = w1.alloc (.cells #[.int .i64 (s : Int)] 3) := ⟨_, rfl⟩
                  have b2 : Below wr.heap.size wr W2 := by rw [hW2]; exact hb1.alloc hb1.size _
                  have hs2 : W2.cell? ⟨w1.heap.size, 0, none⟩ = some (.int .i64 (s : Int)) := by rw [hW2]; simp [go_sem]
                  have HSD := hid (side1_I w1.heap.size s W2 (by omega) hs2)
                  have z2 := b2.size
                  have q0' := cell_on b2 q0
                  have q1' := cell_on b2 q1
                  have ec' := cell_on b2 ec
                  have en' := cell_on b2 en
                  have fc' : W2.frozen? ⟨V.heap.size + 1, s, none⟩ = false := (b2.frozen (p := ⟨V.heap.size + 1, s, none⟩) (by simp; omega)).trans (HFH.out s)
                  have fn' : W2.frozen? ⟨V.heap.size + 2, s, none⟩ = false := (b2.frozen (p := ⟨V.heap.size + 2, s, none⟩) (by simp; omega)).trans (HFN.out s)
                  have bV := HBX.out.trans (b2.mono (by omega))
                  obtain ⟨W3, hW3⟩ : ∃ W, W = (W2.setCell ⟨V.heap.size + 1, s, none⟩ (.int .u8 mv)).setCell ⟨V.heap.size + 2, s, none⟩ (.int .i64 (-1)) := ⟨_, rfl⟩
                  have b3 : Below V.heap.size V W3 := by rw [hW3]; exact (bV.setCell (by simp) _).setCell (by simp) _
                  have z3 : W3.heap.size = W2.heap.size := by rw [hW3]; simp
                  have c3 : ∀ j, j < 4 → W3.cell? ⟨V.heap.size + 1, j, none⟩ = some (.int .u8 (qTo (fun j => mx (hitsG p.k p.t j)) (s + 1) j)) := by
                    intro j hj
                    rw [hW3, World.cell?_setCell_other _ _ _ _ (by intro x; simp only [Addr.mk.injEq] at x; omega)]
                    by_cases e : j = s
                    · subst e; rw [World.cell?_setCell_same _ _ _ ec', qTo_set, HMV.out]
                    · rw [World.cell?_setCell_other _ _ _ _ (by intro x; simp only [Addr.mk.injEq] at x; omega), qTo_ne _ e]; exact cell_on b2 (HCH.out j hj)
                  have n3 : ∀ j, j < 4 → j ≠ s → W3.cell? ⟨V.heap.size + 2, j, none⟩ = some (.int .i64 (qTo (fun j => nearI xs k j) (s + 1) j)) := by
                    intro j hj e
                    rw [hW3, World.cell?_setCell_other _ _ _ _ (by intro x; simp only [Addr.mk.injEq] at x; omega), World.cell?_setCell_other _ _ _ _ (by intro x; simp only [Addr.mk.injEq] at x; omega), qTo_ne _ e]; exact cell_on b2 (HCN.out j hj)
                  have e3 : W3.cell? ⟨V.heap.size + 2, s, none⟩ = some (.int .i64 (-1)) := by rw [hW3]; exact World.cell?_setCell_same _ _ _ ((World.cell?_setCell_other _ _ _ _ (by intro x; simp only [Addr.mk.injEq] at x; omega)).trans en')
                  have fh3 : Fz W3 (V.heap.size + 1) := by rw [hW3]; exact ((HFH.out.below b2 (by omega)).set _ _).set _ _
                  have fn3 : Fz W3 (V.heap.size + 2) := by rw [hW3]; exact ((HFN.out.below b2 (by omega)).set _ _).set _ _
                  have q30 : W3.cell? ⟨V.heap.size, 0, none⟩ = some (.int .i8 p.x) := by rw [hW3, World.cell?_setCell_other _ _ _ _ (by intro x; simp only [Addr.mk.injEq] at x; omega), World.cell?_setCell_other _ _ _ _ (by intro x; simp only [Addr.mk.injEq] at x; omega)]; exact cell_on b2 q0
                  have q31 : W3.cell? ⟨V.heap.size, 1, none⟩ = some (.int .i8 p.y) := by rw [hW3, World.cell?_setCell_other _ _ _ _ (by intro x; simp only [Addr.mk.injEq] at x; omega), World.cell?_setCell_other _ _ _ _ (by intro x; simp only [Addr.mk.injEq] at x; omega)]; exact cell_on b2 q1
                  have q32 : W3.cell? ⟨V.heap.size, 2, none⟩ = some (.int .i8 p.k) := by rw [hW3, World.cell?_setCell_other _ _ _ _ (by intro x; simp only [Addr.mk.injEq] at x; omega), World.cell?_setCell_other _ _ _ _ (by intro x; simp only [Addr.mk.injEq] at x; omega)]; exact cell_on b2 q2
                  have q33 : W3.cell? ⟨V.heap.size, 3, none⟩ = some (.int .i8 p.t) := by rw [hW3, World.cell?_setCell_other _ _ _ _ (by intro x; simp only [Addr.mk.injEq] at x; omega), World.cell?_setCell_other _ _ _ _ (by intro x; simp only [Addr.mk.injEq] at x; omega)]; exact cell_on b2 q3
                  have q34 : W3.cell? ⟨V.heap.size, 4, none⟩ = some (.int .i8 p.d) := by rw [hW3, World.cell?_setCell_other _ _ _ _ (by intro x; simp only [Addr.mk.injEq] at x; omega), World.cell?_setCell_other _ _ _ _ (by intro x; simp only [Addr.mk.injEq] at x; omega)]; exact cell_on b2 q4
                  have C3 := hid c3
                  have N3 := hid n3
                  have B3 := hid b3
                  have F3 := hid (And.intro fh3 fn3)
                  have HW3 := hid hW3
                  clear c3 n3 b3 fh3 fn3 hW3 bV
                  go_wp2_with fail
                  rw [← hW2]
                  clear hW2
                  refine HSD.out.mono ?_
                  rintro e w9 ⟨rfl, rfl⟩
                  go_wp2_with fail
                  rw [← HW3.out]
                  clear HW3 ec' en' fc' fn' q0' q1'
                  refine (HNX.out _).mono ?_
                  rintro e w4 ⟨rfl, hb4⟩
                  have b4 := B3.out.trans (hb4.mono (by omega))
                  have z4 := hb4.size
                  have hlk := HPL.out _ b4
                  have e4 := cell_on hb4 e3
                  have f4 : w4.frozen? ⟨V.heap.size + 2, s, none⟩ = false := (hb4.frozen (p := ⟨V.heap.size + 2, s, none⟩) (by simp; omega)).trans (F3.out.2 s)
                  have B4 := hid b4
                  clear b4
                  go_wp2_with fail
                  refine ⟨⟨s + 1, by omega, by go_num, (by rw [HUB.out]), B4.out, by omega, ⟨cell_on hb4 q30, cell_on hb4 q31, cell_on hb4 q32, cell_on hb4 q33, cell_on hb4 q34⟩, fun j hj => cell_on hb4 (C3.out j hj), fun j hj => ?_, F3.out.1.below hb4 (by omega), F3.out.2.below hb4 (by omega)⟩, by simp [intOf]; omega⟩
                  by_cases e : j = s
                  · subst e; rw [e4, qTo_set, HNV.out, show nv = -1 by omega]
                  · exact cell_on hb4 (N3.out j hj e)
            · obtain rfl : s = 4 := by omega
              have hds : decide (((4 : Nat) : Int) < 4) = false := by decide
              rw [upTo_four]
              have BX := hid hbx
              have y10 := hch 0 (by omega)
              have y11 := hch 1 (by omega)
              have y12 := hch 2 (by omega)
              have y13 := hch 3 (by omega)
              have y20 := hcn 0 (by omega)
              have y21 := hcn 1 (by omega)
              have y22 := hcn 2 (by omega)
              have y23 := hcn 3 (by omega)
              simp only [qTo, show (0 < 4) = True by simp, show (1 < 4) = True by simp, show (2 < 4) = True by simp, show (3 < 4) = True by simp, if_true] at y10 y11 y12 y13 y20 y21 y22 y23
              have HG4 := hid (HG.out.below hbx)
              have HP4 := hid (HP.out.below hbx hpl)
              have HUP := hid (show (canL (xs.take (k + 1))).flatMap en8 = (canL (xs.take k)).flatMap en8 ++ [.int .u8 (sBits (canP p))] by
                rw [List.take_add_one, HPK.out]; simp [canL, en8])
              have HUH := hid (show (hitL (xs.take (k + 1))).flatMap Q4.e8 = (hitL (xs.take k)).flatMap Q4.e8 ++ [.int .u8 (mx (hitsG p.k p.t 0)), .int .u8 (mx (hitsG p.k p.t 1)), .int .u8 (mx (hitsG p.k p.t 2)), .int .u8 (mx (hitsG p.k p.t 3))] by
                rw [List.take_add_one, HPK.out]; simp [hitL, hitQ, Q4.e8])
              have HUB := hid (show (besL xs (k + 1)).flatMap Q4.e64 = (besL xs k).flatMap Q4.e64 ++ [.int .i64 (nearI xs k 0), .int .i64 (nearI xs k 1), .int .i64 (nearI xs k 2), .int .i64 (nearI xs k 3)] by
                rw [besL, List.flatMap_append]; simp [besQ, Q4.e64])
              clear hch hcn hbx q0 q1 q2 q3 q4
              go_upto_region 22 with fail
              refine wp_region_phase (by kernel_rfl) ?_
              refine wpAny_take (i := 0) (v := ?_) rfl (by kernel_rfl) (by kernel_rfl) (by kernel_rfl) (fun _ _ _ h => h) (Or.inl ⟨by rfl, ?_⟩) ?_
              rotate_left 1
              · (intro W; go_simp; try with_reducible rfl)
              try simp only [Act.put, List.setIfInBounds_toArray, List.set_cons_zero, List.set_cons_succ]
              refine wpAny_take (i := 1) (v := ?_) rfl (by kernel_rfl) (by kernel_rfl) (by kernel_rfl) (fun _ _ _ h => h) (Or.inl ⟨by rfl, ?_⟩) ?_
              rotate_left 1
              · (intro W; go_simp; try with_reducible rfl)
              try simp only [Act.put, List.setIfInBounds_toArray, List.set_cons_zero, List.set_cons_succ]
              refine wpAny_take (i := 2) (v := ?_) rfl (by kernel_rfl) (by kernel_rfl) (by kernel_rfl) (fun _ _ _ h => h) (Or.inl ⟨by rfl, ?_⟩) ?_
              rotate_left 1
              · (intro W; go_simp; try with_reducible rfl)
              try simp only [Act.put, List.setIfInBounds_toArray, List.set_cons_zero, List.set_cons_succ]
              refine wpAny_take (i := 3) (v := ?_) rfl (by kernel_rfl) (by kernel_rfl) (by kernel_rfl) (fun _ _ _ h => h) (Or.inl ⟨by rfl, ?_⟩) ?_
              rotate_left 1
              · (intro W; go_simp; try with_reducible rfl)
              try simp only [Act.put, List.setIfInBounds_toArray, List.set_cons_zero, List.set_cons_succ]
              refine wpAny_take (i := 4) (v := ?_) rfl (by kernel_rfl) (by kernel_rfl) (by kernel_rfl) (fun _ _ _ h => h) (Or.inl ⟨by rfl, ?_⟩) ?_
              rotate_left 1
              · (intro W; go_simp; try with_reducible rfl)
              try simp only [Act.put, List.setIfInBounds_toArray, List.set_cons_zero, List.set_cons_succ]
              refine wpAny_take (i := 5) (v := ?_) rfl (by kernel_rfl) (by kernel_rfl) (by kernel_rfl) (fun _ _ _ h => h) (Or.inl ⟨by rfl, ?_⟩) ?_
              rotate_left 1
              · (intro W; go_simp; try with_reducible rfl)
              try simp only [Act.put, List.setIfInBounds_toArray, List.set_cons_zero, List.set_cons_succ]
              refine wpAny_take (i := 7) (v := ?_) rfl (by kernel_rfl) (by kernel_rfl) (by kernel_rfl) (fun _ _ _ h => h) (Or.inl ⟨by rfl, ?_⟩) ?_
              rotate_left 1
              · (intro W; go_simp; try with_reducible rfl)
              try simp only [Act.put, List.setIfInBounds_toArray, List.set_cons_zero, List.set_cons_succ]
              refine wpAny_take (i := 10) (v := ?_) rfl (by kernel_rfl) (by kernel_rfl) (by kernel_rfl) (fun _ _ _ h => h) (Or.inl ⟨by rfl, ?_⟩) ?_
              rotate_left 1
              · (intro W; go_simp; try with_reducible rfl)
              try simp only [Act.put, List.setIfInBounds_toArray, List.set_cons_zero, List.set_cons_succ]
              refine wpAny_take (i := 11) (v := ?_) rfl (by kernel_rfl) (by kernel_rfl) (by kernel_rfl) (fun _ _ _ h => h) (Or.inl ⟨by rfl, ?_⟩) ?_
              rotate_left 1
              · (intro W; go_simp; try with_reducible rfl)
              try simp only [Act.put, List.setIfInBounds_toArray, List.set_cons_zero, List.set_cons_succ]
              refine wpAny_take (i := 12) (v := ?_) rfl (by kernel_rfl) (by kernel_rfl) (by kernel_rfl) (fun _ _ _ h => h) (Or.inl ⟨by rfl, ?_⟩) ?_
              rotate_left 1
              · (intro W; go_simp; try with_reducible rfl)
              try simp only [Act.put, List.setIfInBounds_toArray, List.set_cons_zero, List.set_cons_succ]
              refine wpAny_take (i := 17) (v := ?_) rfl (by kernel_rfl) (by kernel_rfl) (by kernel_rfl) (fun _ _ _ h => h) (Or.inl ⟨by rfl, ?_⟩) ?_
              rotate_left 1
              · (intro W; go_simp; try with_reducible rfl)
              try simp only [Act.put, List.setIfInBounds_toArray, List.set_cons_zero, List.set_cons_succ]
              refine wpAny_take (i := 18) (v := ?_) rfl (by kernel_rfl) (by kernel_rfl) (by kernel_rfl) (fun _ _ _ h => h) (Or.inl ⟨by rfl, ?_⟩) ?_
              rotate_left 1
              · (intro W; go_simp; try with_reducible rfl)
              try simp only [Act.put, List.setIfInBounds_toArray, List.set_cons_zero, List.set_cons_succ]
              refine wpAny_take (i := 19) (v := ?_) rfl (by kernel_rfl) (by kernel_rfl) (by kernel_rfl) (fun _ _ _ h => h) (Or.inl ⟨by rfl, ?_⟩) ?_
              rotate_left 1
              · (intro W; go_simp; try with_reducible rfl)
              try simp only [Act.put, List.setIfInBounds_toArray, List.set_cons_zero, List.set_cons_succ]
              refine wpAny_at (L' := lst 33 (fun j => [0, 1, 2, 3, 4, 5, 7, 10, 11, 12, 17, 18, 19].contains j) (fun _ => false)) (fuel' := 9 + unl (fun _ => false) (([(6, []), (8, []), (9, [6, 8]), (13, []), (14, []), (15, [14]), (16, [13, 15, 9]), (20, []), (21, []), (22, [21]), (23, [20, 22, 16])] : List (Nat × List Nat)).map (·.1))) (by kernel_rfl) rfl ?_
              refine wpAny_act fun a0 ha0 => ?_
              obtain ⟨hbx4, hfz4, hr1, hr2, hr3, hd12, hd13, hd23⟩ := HG4.out
              have lo1 : ∀ q, (Value.slice A1 k c1).ownBlock = some q → q < V.heap.size := fun q e => (HG.out.r1.lt q e).2
              have lo2 : ∀ q, (Value.slice A2 k c2).ownBlock = some q → q < V.heap.size := fun q e => (HG.out.r2.lt q e).2
              have lo3 : ∀ q, (Value.slice A3 k c3).ownBlock = some q → q < V.heap.size := fun q e => (HG.out.r3.lt q e).2
              have e89 : a0.eval (.tmp 89) = .pointer (some ⟨w.heap.size, 1, none⟩) := by rw [ha0]; kernel_rfl
              have e91 : a0.eval (.tmp 91) = .int .u8 (sBits (canP p)) := by rw [ha0]; kernel_rfl
              have e96 : a0.eval (.tmp 96) = .pointer (some ⟨w.heap.size, 2, none⟩) := by rw [ha0]; kernel_rfl
              have e10 : a0.eval (.tmp 10) = .pointer (some ⟨V.heap.size + 1, 0, none⟩) := by rw [ha0]; kernel_rfl
              have e103 : a0.eval (.tmp 103) = .pointer (some ⟨w.heap.size, 3, none⟩) := by rw [ha0]; kernel_rfl
              have e11 : a0.eval (.tmp 11) = .pointer (some ⟨V.heap.size + 2, 0, none⟩) := by rw [ha0]; kernel_rfl
              have hsz0 : 108 ≤ a0.tmps.size := by rw [ha0]; simp
              have hlo : ∀ q, ((Value.slice A1 k c1).ownBlock = some q ∨ (Value.slice A2 k c2).ownBlock = some q ∨ (Value.slice A3 k c3).ownBlock = some q) → q < V.heap.size + 1 ∧ q < V.heap.size + 2 := by
                intro q h
                rcases h with h | h | h
                · have := lo1 q h; omega
                · have := lo2 q h; omega
                · have := lo3 q h; omega
              refine app3 (by kernel_rfl) (by exact ⟨_, rfl, rfl, rfl, rfl⟩) (by exact ⟨_, rfl, rfl, rfl, rfl⟩) (by exact ⟨_, rfl, rfl, rfl, rfl⟩) (by exact ⟨_, rfl, rfl, rfl, rfl⟩) (by exact ⟨_, rfl, rfl, rfl, rfl⟩) (by exact ⟨_, rfl, rfl, rfl, rfl⟩) (by exact ⟨_, rfl, rfl, rfl, rfl⟩) (by exact ⟨_, rfl, rfl, rfl, rfl⟩) (by exact ⟨_, rfl, rfl, rfl, rfl⟩) (by exact ⟨_, rfl, rfl, rfl, rfl⟩) (by exact ⟨_, rfl, rfl, rfl, rfl⟩) a0 wr (w.heap.size + 2) w.heap.size (V.heap.size + 1) (V.heap.size + 2) _ (.slice A1 k c1) (.slice A2 k c2) (.slice A3 k c3) k _ _ _ (sBits (canP p)) (mx (hitsG p.k p.t 0)) (mx (hitsG p.k p.t 1)) (mx (hitsG p.k p.t 2)) (mx (hitsG p.k p.t 3)) (nearI xs k 0) (nearI xs k 1) (nearI xs k 2) (nearI xs k 3) (by omega) hsz0 e89 e91 e96 e10 e103 e11 hbx4 (by omega) (by omega) hr1 hr2 hr3 hd12 hd13 hd23 hlo (fun j u h => ?_) (fun j u h => ?_) (fun aa ww hM => ?_)
              · have hj : j = 0 ∨ j = 1 ∨ j = 2 ∨ j = 3 := by have := (List.getElem?_eq_some_iff.1 h).1; simp at this; omega
                rcases hj with rfl | rfl | rfl | rfl
                · simp at h; subst h; exact y10
                · simp at h; subst h; exact y11
                · simp at h; subst h; exact y12
                · simp at h; subst h; exact y13
              · have hj : j = 0 ∨ j = 1 ∨ j = 2 ∨ j = 3 := by have := (List.getElem?_eq_some_iff.1 h).1; simp at this; omega
                rcases hj with rfl | rfl | rfl | rfl
                · simp at h; subst h; exact y20
                · simp at h; subst h; exact y21
                · simp at h; subst h; exact y22
                · simp at h; subst h; exact y23
              · obtain ⟨β, γ, hD, h3, h4, G1, G2, G3⟩ := hM.st
                obtain ⟨B1, d1, e93, own1, hβ1⟩ := G1.row1 (by decide)
                obtain ⟨B2, d2, e100, own2, hβ2⟩ := G2.row1 (by decide)
                obtain ⟨B3, d3, e107, own3, hβ3⟩ := G3.row1 (by decide)
                have D12 := hD.bb 0 1 (by decide)
                have D13 := hD.bb 0 2 (by decide)
                have D23 := hD.bb 1 2 (by decide)
                rw [hβ1, hβ2] at D12
                rw [hβ1, hβ3] at D13
                rw [hβ2, hβ3] at D23
                have ea := act_of ds22 a0 hM.sz hM.df hM.fr
                have bl := hM.bl
                clear G1 G2 G3 hM hD h3 h4 hβ1 hβ2 hβ3 β γ
                simp only [ds22, List.foldl_cons, List.foldl_nil] at ea
                rw [e93, e100, e107] at ea
                clear e93 e100 e107 e89 e91 e96 e10 e103 e11 hsz0
                generalize aa.eval (.tmp 90) = z90 at ea
                generalize aa.eval (.tmp 92) = z92 at ea
                generalize aa.eval (.tmp 97) = z97 at ea
                generalize aa.eval (.tmp 98) = z98 at ea
                generalize aa.eval (.tmp 99) = z99 at ea
                generalize aa.eval (.tmp 104) = z104 at ea
                generalize aa.eval (.tmp 105) = z105 at ea
                generalize aa.eval (.tmp 106) = z106 at ea
                subst ha0
                subst ea
                have bx5 : Wx ww w.heap.size _ (.slice A1 k c1) (.slice A2 k c2) (.slice A3 k c3) := ⟨(bl.cell (p := ⟨w.heap.size, 0, none⟩) (by simp)).trans hbx4.x0, (bl.cell (p := ⟨w.heap.size, 1, none⟩) (by simp)).trans hbx4.x1, (bl.cell (p := ⟨w.heap.size, 2, none⟩) (by simp)).trans hbx4.x2, (bl.cell (p := ⟨w.heap.size, 3, none⟩) (by simp)).trans hbx4.x3⟩
                have fz5 : Fz ww w.heap.size := hfz4.below bl (by omega)
                have x1 := bx5.x1
                have x2 := bx5.x2
                have x3 := bx5.x3
                have f1 := fz5 1
                have f2 := fz5 2
                have f3 := fz5 3
                have FIN := hid (And.intro own1 (And.intro own2 (And.intro own3 (And.intro D12 (And.intro D13 D23)))))
                have BL := hid bl
                have BX5 := hid bx5
                have FZ5 := hid fz5
                clear own1 own2 own3 D12 D13 D23 bl bx5 fz5 hr1 hr2 hr3 hd12 hd13 hd23 lo1 lo2 lo3 hbx4 hfz4 y10 y11 y12 y13 y20 y21 y22 y23
                simp only [Act.put, List.setIfInBounds_toArray, List.set_cons_zero, List.set_cons_succ]
                refine wpAny_take (i := 24) (v := ?_) rfl (by kernel_rfl) (by kernel_rfl) (by kernel_rfl) (fun _ _ _ h => h) (Or.inl ⟨by rfl, ?_⟩) ?_
                rotate_left 1
                · (intro W; go_simp; try with_reducible rfl)
                try simp only [Act.put, List.setIfInBounds_toArray, List.set_cons_zero, List.set_cons_succ]
                refine wpAny_take (i := 25) (v := ?_) rfl (by kernel_rfl) (by kernel_rfl) (by kernel_rfl) (fun _ _ _ h => h) (Or.inl ⟨by rfl, ?_⟩) ?_
                rotate_left 1
                · (intro W; go_simp; try with_reducible rfl)
                try simp only [Act.put, List.setIfInBounds_toArray, List.set_cons_zero, List.set_cons_succ]
                refine wpAny_all (rs := [26]) (by kernel_rfl) (by simp) (fun i hi => ?_)
                simp only [List.mem_singleton] at hi
                subst hi
                refine wpOp_of (o := _) rfl rfl fun K hK => ?_
                go_simp
                refine hK.out _ _ ?_
                clear hK K
                try simp only [Act.put, List.setIfInBounds_toArray, List.set_cons_zero, List.set_cons_succ]
                refine wpAny_take (i := 27) (v := ?_) rfl (by kernel_rfl) (by kernel_rfl) (by kernel_rfl) (fun _ _ _ h => h) (Or.inl ⟨by rfl, ?_⟩) ?_
                rotate_left 1
                · (intro W; go_simp; try with_reducible rfl)
                try simp only [Act.put, List.setIfInBounds_toArray, List.set_cons_zero, List.set_cons_succ]
                refine wpAny_take (i := 28) (v := ?_) rfl (by kernel_rfl) (by kernel_rfl) (by kernel_rfl) (fun _ _ _ h => h) (Or.inl ⟨by rfl, ?_⟩) ?_
                rotate_left 1
                · (intro W; go_simp; try with_reducible rfl)
                try simp only [Act.put, List.setIfInBounds_toArray, List.set_cons_zero, List.set_cons_succ]
                refine wpAny_all (rs := [29]) (by kernel_rfl) (by simp) (fun i hi => ?_)
                simp only [List.mem_singleton] at hi
                subst hi
                refine wpOp_of (o := _) rfl rfl fun K hK => ?_
                go_simp
                refine hK.out _ _ ?_
                clear hK K
                try simp only [Act.put, List.setIfInBounds_toArray, List.set_cons_zero, List.set_cons_succ]
                refine wpAny_take (i := 30) (v := ?_) rfl (by kernel_rfl) (by kernel_rfl) (by kernel_rfl) (fun _ _ _ h => h) (Or.inl ⟨by rfl, ?_⟩) ?_
                rotate_left 1
                · (intro W; go_simp; try with_reducible rfl)
                try simp only [Act.put, List.setIfInBounds_toArray, List.set_cons_zero, List.set_cons_succ]
                refine wpAny_take (i := 31) (v := ?_) rfl (by kernel_rfl) (by kernel_rfl) (by kernel_rfl) (fun _ _ _ h => h) (Or.inl ⟨by rfl, ?_⟩) ?_
                rotate_left 1
                · (intro W; go_simp; try with_reducible rfl)
                try simp only [Act.put, List.setIfInBounds_toArray, List.set_cons_zero, List.set_cons_succ]
                refine wpAny_all (rs := [32]) (by kernel_rfl) (by simp) (fun i hi => ?_)
                simp only [List.mem_singleton] at hi
                subst hi
                refine wpOp_of (o := _) rfl rfl fun K hK => ?_
                go_simp
                refine hK.out _ _ ?_
                clear hK K
                try simp only [Act.put, List.setIfInBounds_toArray, List.set_cons_zero, List.set_cons_succ]
                refine wpAny_done (by kernel_rfl) ?_ _
                go_wp2_with fail
                have zl := BL.out.size
                have hne : ∀ (v : Value) (n : Nat) (E : TypeId) (s : Nat) (l : List Value), ww.ownsRow (w.heap.size + 2) E s v n l → ∀ X1 X2 X3, (((ww.setCell ⟨w.heap.size, 1, none⟩ X1).setCell ⟨w.heap.size, 2, none⟩ X2).setCell ⟨w.heap.size, 3, none⟩ X3).ownsRow (w.heap.size + 2) E s v n l := by
                  intro v n E s l h X1 X2 X3
                  have hq : v.ownBlock = none ∨ v.ownBlock ≠ some w.heap.size := .inr fun e => by have := (h.lt _ e).1; omega
                  refine World.ownsRow.kept (row := some w.heap.size) h (((store_grown _ _ _ _).trans (store_grown _ _ _ _)).trans (store_grown _ _ _ _)) hq
                obtain ⟨own1, own2, own3, D12, D13, D23⟩ := FIN.out
                refine ⟨⟨k + 1, B1, d1, B2, d2, B3, d3, by omega, by go_num, ?_, by simp; omega, ?_, ⟨?_, ?_, ?_, ?_, ?_, D12, D13, D23⟩⟩, by simp [intOf]; omega⟩
                · exact ((((HB.out.trans (BX.out.mono (by omega))).trans (BL.out.mono (by omega))).setCell (by simp) _).setCell (by simp) _).setCell (by simp) _
                · exact ((((HP4.out.below BL.out (by omega)).kept (store_grown _ _ _ _) (by simp)).kept (store_grown _ _ _ _) (by simp)).kept (store_grown _ _ _ _) (by simp))
                · exact ((BX5.out.set1 _).set2 _).set3 _
                · exact ((FZ5.out.set _ _).set _ _).set _ _
                · rw [HUP.out]; exact hne _ _ _ _ _ own1 _ _ _
                · rw [HUH.out]; exact hne _ _ _ _ _ own2 _ _ _
                · rw [HUB.out]; exact hne _ _ _ _ _ own3 _ _ _
        · obtain rfl : k = xs.length := by omega
          have hGf := HG.out
          obtain ⟨hbx, _, hr1, hr2, hr3, _, _, _⟩ := hGf
          rw [List.take_length] at hr1 hr2
          have hl1 : (canL xs).length = xs.length := by simp [canL]
          have hl2 : (hitL xs).length = xs.length := by simp [hitL]
          have hl3 := besL_length xs xs.length
          have HT := hid (show Stg V ⟨w.heap.size, a, c, xs, A1, c1, A2, c2, A3, c3⟩ from ⟨hbx.x0, hbx.x1, hbx.x2, hbx.x3, HX.out.below HB.out, SlA.of_own (fun _ => rfl) (by rw [hl1]; exact hr1), SlA.of_own (fun _ => rfl) (by rw [hl2]; exact hr2), SlA.of_own (fun _ => rfl) (by rw [hl3]; exact hr3)⟩)
          clear hbx hr1 hr2 hr3 hl1 hl2 hl3
          go_wp2_with fail
          go_ret
          exact ⟨⟨w.heap.size, a, c, xs, A1, c1, A2, c2, A3, c3⟩, rfl, HB.out, rfl, rfl, Nat.le_refl _, HT.out⟩
end Go.Proofs.YthhfndifcdiomaaGreat
