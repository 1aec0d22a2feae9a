/-
  The search over free cells, the program's.
  Conditions: the board is a right one, the cell is free.
-/
import Derived.Test.YtgkgklgeobbmlaaLineQ
import Derived.Deep.LoopGhost
namespace Go.Proofs.Ytgkgklgeobbmlaa
open Go.RowKit
set_option linter.unusedSimpArgs false
set_option linter.unusedVariables false

set_option maxRecDepth 100000 in
set_option maxHeartbeats 16000000 in
theorem steps_I (bb : Nat) (wi hi : Nat) (hw : 1 ≤ wi ∧ wi ≤ 24) (hh : 1 ≤ hi ∧ hi ≤ 24) (a : Option Addr) (c : Nat) (xs : List Pc) (cx cy : Int) (w : World) (hs : xs.length ≤ 1048576) (hb : BdA w bb wi hi a xs.length c) (h : SlA Pc.enc 5 w a xs) (ok : ∀ p ∈ xs, p.Ok) (hf : freeG wi hi xs cx cy = true) :
    Calls Try.prog 67 #[.pointer (some ⟨bb, 0, none⟩), .agg #[.int .i8 cx, .int .i8 cy]] w fun e w' => ∃ mb n, e = .returned (.map (some mb)) ∧ Below w.heap.size w w' ∧ w.heap.size ≤ mb ∧ Plq w' mb n (farD wi hi xs cx cy) := by
  have hin := free_in hf
  have hmm := @run_makeMap Try.prog
  have HHas := hid (fun W (hW : Below w.heap.size w W) x y => hasB_I bb wi hi a xs.length c x y W (hb.below hW hb.lt))
  have HSl := hid (fun W (hW : Below w.heap.size w W) => (⟨h.below hW, (hb.below hW hb.lt).c2⟩ : SlA Pc.enc 5 W a xs ∧ W.cell? ⟨bb, 2, none⟩ = some (.slice a xs.length c)))
  have HOk := hid (fun k => bfs_ok (F := freeG wi hi xs) (c := ⟨cx, cy⟩) hf k)
  have HEnd := hid (fun k (hk : k = (bfsQ (freeG wi hi xs) ⟨cx, cy⟩ k).1.length) => far_of (wi := wi) (hi := hi) (xs := xs) (c := ⟨cx, cy⟩) hf hk)
  have HBnd := hid (fun st (h : BfsOk (freeG wi hi xs) ⟨cx, cy⟩ st) => nodup_board (wi := wi) (hi := hi) h.nd (fun e he => free_in (h.fr e he)))
  have HFin := hid (fun x y (h : freeG wi hi xs x y = true) => free_in h)
  have HFG := hid (fun x y => (show freeG wi hi xs x y = (cellIn x y wi hi && !xs.any (atC x y)) from rfl))
  have HD := hid (show farD wi hi xs cx cy = (bfsQ (freeG wi hi xs) ⟨cx, cy⟩ (wi * hi)).2 by unfold farD; rw [Int.toNat_natCast, Int.toNat_natCast])
  generalize farD wi hi xs cx cy = FD at *
  generalize freeG wi hi xs = F at *
  obtain ⟨-, g0, g1, g2⟩ := hb
  obtain ⟨W1, hW1⟩ : ∃ W, W = w.alloc (Obj.cells #[.int .i8 cx, .int .i8 cy] 36) := ⟨_, rfl⟩
  have B1 : Below w.heap.size w W1 := by rw [hW1]; exact (Below.refl _ _).alloc (Nat.le_refl _) _
  have k0 : W1.cell? ⟨w.heap.size, 0, none⟩ = some (.int .i8 cx) := by rw [hW1]; simp
  have k1 : W1.cell? ⟨w.heap.size, 1, none⟩ = some (.int .i8 cy) := by rw [hW1]; simp
  have hz1 : w.heap.size < W1.heap.size := by rw [hW1]; simp
  obtain ⟨W2, hW2⟩ : ∃ W, W = W1.alloc (.map #[] 0) := ⟨_, rfl⟩
  have B2 : Below W1.heap.size W1 W2 := by rw [hW2]; exact (Below.refl _ _).alloc (Nat.le_refl _) _
  have HS0 := hid (show Seen W2 W1.heap.size 0 (fun _ _ => false) by rw [hW2]; exact seen_made W1)
  have HI0 := hid (cell_on B2 k0)
  have HI1 := hid (cell_on B2 k1)
  have HB2 := hid (below_of B1 B1.size B2)
  have j2 : W2.cell? ⟨bb, 2, none⟩ = some (.slice a xs.length c) := (HSl.out W2 HB2.out).2
  rw [hW1] at hW2
  have hsz : W1.heap.size = w.heap.size + 1 := by rw [hW1]; simp
  rw [hsz] at HS0
  clear hW1 B1 B2 k0 k1 h g0 g1 g2 hz1 hsz
  obtain ⟨cb, hcb⟩ : ∃ cb, w.heap.size = cb := ⟨_, rfl⟩
  obtain ⟨tb, htb⟩ : ∃ tb, cb + 1 = tb := ⟨_, rfl⟩
  have hct : cb < tb := by omega
  rw [hcb] at HS0 HI0 HI1
  rw [htb] at HS0
  have HCb := hid hcb
  go_enter Try.func67, Try.ntmps67
  go_upto_region 2 with fail
  rw [← hW2]
  (try rw [hcb])
  (try rw [htb])
  clear hW2 hcb htb
  go_wp2_with fail
  clear j2
  go_loopw [20] (fun iv wr => ∃ k : Nat, k ≤ xs.length ∧ iv = .int .i64 k ∧ Below w.heap.size w wr ∧ Seen wr tb k (fun x y => (xs.take k).any (atC x y)) ∧ wr.cell? ⟨cb, 0, none⟩ = some (.int .i8 cx) ∧ wr.cell? ⟨cb, 1, none⟩ = some (.int .i8 cy) ∧ cb < wr.heap.size) (fun iv _ => xs.length - (intOf iv).toNat)
  case atStart => exact ⟨0, Nat.zero_le _, rfl, HB2.out, by simpa using HS0.out, HI0.out, HI1.out, World.block_lt_of_cell? _ _ HI0.out⟩
  case round =>
    obtain ⟨k, hk, rfl, hbl, hsn, i0, i1, hcl⟩ := hrel
    by_cases hlt : k < xs.length
    · obtain ⟨b1, o1, rfl, hb1, hc1⟩ := (HSl.out wr hbl).1.cells (by omega)
      have e1 : xs[k]? = some xs[k] := List.getElem?_eq_getElem hlt
      have okp : xs[k].Ok := ok _ (List.getElem_mem hlt)
      have Hp := hid e1
      clear e1
      generalize xs[k] = p at *
      have f0 : wr.cell? ⟨b1, o1 + k * 5, none⟩ = some (.int .i8 p.x) := hc1 k _ Hp.out 0 _ rfl
      have f1 : wr.cell? ⟨b1, o1 + k * 5 + 1, none⟩ = some (.int .i8 p.y) := hc1 k _ Hp.out 1 _ rfl
      have f2 : wr.cell? ⟨b1, o1 + k * 5 + 2, none⟩ = some (.int .i8 p.k) := hc1 k _ Hp.out 2 _ rfl
      have f3 : wr.cell? ⟨b1, o1 + k * 5 + 3, none⟩ = some (.int .i8 p.t) := hc1 k _ Hp.out 3 _ rfl
      have f4 : wr.cell? ⟨b1, o1 + k * 5 + 4, none⟩ = some (.int .i8 p.d) := hc1 k _ Hp.out 4 _ rfl
      have hd : decide ((k : Int) < (xs.length : Int)) = true := by rw [decide_eq_true_iff]; omega
      have hki : (k : Int) < (xs.length : Int) := by omega
      have wk : IntKind.i64.wrap ((k : Int) + 1) = (k : Int) + 1 := IntWalk.i64_in _ (by omega)
      have ht8 : k < maxLen := by unfold maxLen; omega
      have hsl := hsn.lt
      have hA : Below wr.heap.size wr (wr.alloc (.cells #[.int .i8 p.x, .int .i8 p.y, .int .i8 p.k, .int .i8 p.t, .int .i8 p.d] 98)) := (Below.refl _ _).alloc (Nat.le_refl _) _
      obtain ⟨w3, hst, hs3, hg3⟩ := (hsn.below hA hsl).store ht8 ⟨okp.x0, okp.x1⟩ ⟨okp.y0, okp.y1⟩
      have HS := hid (show (fun (u v : Int) => decide (u = p.x ∧ v = p.y) || (xs.take k).any (atC u v)) = (fun u v => (xs.take (k + 1)).any (atC u v)) by
        funext u v
        rw [List.take_add_one, Hp.out, List.any_append]
        simp [atC, Bool.or_comm, eq_comm])
      rw [HS.out] at hs3
      have HX := hid hs3
      have HZ := hid ((below_of hbl hbl.size hA).grown hg3 (Below.size (below_of hbl hbl.size hA)) (fun j hj => by cases hj; have := HCb.out; omega))
      have HI0' := hid ((World.cell?_of_block (a := ⟨cb, 0, none⟩) (hg3.block cb (Nat.lt_of_lt_of_le hcl hA.size) (by simp; omega))).trans (cell_on hA i0))
      have HI1' := hid ((World.cell?_of_block (a := ⟨cb, 1, none⟩) (hg3.block cb (Nat.lt_of_lt_of_le hcl hA.size) (by simp; omega))).trans (cell_on hA i1))
      clear hc1 hsn hbl hs3 hg3 okp i0 i1 hA
      go_wp2_with fail
      exact ⟨⟨k + 1, by omega, by go_num, HZ.out, HX.out, HI0'.out, HI1'.out, World.block_lt_of_cell? _ _ HI0'.out⟩, by simp [intOf]; omega⟩
    · have hkx : k = xs.length := by omega
      have hd : decide ((k : Int) < (xs.length : Int)) = false := by rw [decide_eq_false_iff_not]; omega
      subst hkx
      rw [List.take_length] at hsn
      have hA : Below wr.heap.size wr (wr.alloc (.map #[] 0)) := (Below.refl _ _).alloc (Nat.le_refl _) _
      obtain ⟨w4, hst, hq4, hg4⟩ := (plq_made wr).store (by unfold maxLen; omega) (x := cx) (y := cy) ⟨by omega, by omega⟩ ⟨by omega, by omega⟩ 0 (by omega) (by omega)
      have i0' : (wr.alloc (.map #[] 0)).cell? ⟨cb, 0, none⟩ = some (.int .i8 cx) := cell_on hA i0
      have i1' : (wr.alloc (.map #[] 0)).cell? ⟨cb, 1, none⟩ = some (.int .i8 cy) := cell_on hA i1
      have u0 : w4.cell? ⟨cb, 0, none⟩ = some (.int .i8 cx) := (World.cell?_of_block (a := ⟨cb, 0, none⟩) (hg4.block cb (Nat.lt_of_lt_of_le hcl hA.size) (by simp; omega))).trans i0'
      have u1 : w4.cell? ⟨cb, 1, none⟩ = some (.int .i8 cy) := (World.cell?_of_block (a := ⟨cb, 1, none⟩) (hg4.block cb (Nat.lt_of_lt_of_le hcl hA.size) (by simp; omega))).trans i1'
      have hg4s := hg4.size
      have hb4 : Below wr.heap.size wr w4 := (hA.grown hg4 hA.size (fun j hj => by cases hj; exact Nat.le_refl _))
      have HS4 := hid (hsn.below hb4 hsn.lt)
      have hsl0 := hsn.lt
      have HQ4 := hid hq4
      have HB4 := hid (below_of hbl hbl.size hb4)
      clear hsn hbl hq4 hg4 hb4 hA i0 i1
      go_wp2_with fail
      obtain ⟨mb, hmb⟩ : ∃ mb, wr.heap.size = mb := ⟨_, rfl⟩
      rw [hmb] at HQ4
      (try rw [hmb])
      have hml : mb < w4.heap.size := by rw [← hmb]; exact Nat.lt_of_lt_of_le (by simp) hg4s
      have htm : tb < mb := by rw [← hmb]; exact hsl0
      obtain ⟨W5, hW5⟩ : ∃ W, W = w4.alloc (Obj.cells #[.int .i8 cx, .int .i8 cy] 36) := ⟨_, rfl⟩
      have b5 : Below w4.heap.size w4 W5 := by rw [hW5]; exact (Below.refl _ _).alloc (Nat.le_refl _) _
      have hqr := World.ownsRow_lit w4 #[.int .i8 cx, .int .i8 cy] 1 (show mb + 1 ≤ w4.heap.size from hml) (by simp [maxLen]) (e := 36) (size := 2) (by simp)
      rw [← hW5] at hqr ⊢
      obtain ⟨qg, hqg⟩ : ∃ qg, w4.heap.size = qg := ⟨_, rfl⟩
      rw [hqg] at hqr b5
      (try rw [hqg])
      have HQb := hid (QuB.of_own (q := [⟨cx, cy⟩]) hqr)
      have hB5 := hid (below_of HB4.out HB4.out.size (b5.mono (by omega)))
      have HS5 := hid (HS4.out.below b5 (by omega))
      have HM5 := hid (HQ4.out.below b5 (by omega))
      have HSt0 := hid (show bfsQ F ⟨cx, cy⟩ 0 = ([⟨cx, cy⟩], fun p q => if p = cx ∧ q = cy then 0 else -1) from rfl)
      clear hW5 b5 hqr hmb hqg hml u0 u1
      have HTm := hid htm
      clear hsl0 i0' i1' hst hcl hk hlt hd hg4s HI0 HI1 HB2 HS0 HSl
      have hN : wi * hi ≤ 24 * 24 := Nat.mul_le_mul hw.2 hh.2
      obtain ⟨N, hNN⟩ : ∃ N, wi * hi = N := ⟨_, rfl⟩
      rw [hNN] at HBnd HEnd HD hN
      clear hNN
      go_loopg [9] (N + 1) (fun gk qv wr => ∃ (k g off n cap : Nat), gk + k = N + 1 ∧ qv = .slice (some ⟨g, off, none⟩) n cap ∧ k ≤ (bfsQ F ⟨cx, cy⟩ k).1.length ∧ Below w.heap.size w wr ∧ Seen wr tb xs.length (fun x y => xs.any (atC x y)) ∧ Plq wr mb (bfsQ F ⟨cx, cy⟩ k).1.length (bfsQ F ⟨cx, cy⟩ k).2 ∧ QuB wr (mb + 1) g off n cap ((bfsQ F ⟨cx, cy⟩ k).1.drop k))
      case atStart => exact ⟨0, qg, 0, 1, 1, rfl, rfl, Nat.zero_le _, hB5.out, HS5.out, by rw [HSt0.out]; exact HM5.out, by rw [HSt0.out]; exact HQb.out⟩
      case round =>
        clear HSt0 HQb hB5 HS5 HM5 HS4 HQ4 HB4
        obtain ⟨k, g, off, n, cap, hgk, rfl, hkl, hbl, hsn, hpl, hqu⟩ := hrel
        have hnl := hqu.len
        rw [List.length_drop] at hnl
        have HLn := hid hnl
        by_cases hn0 : 0 < n
        · have hd : decide ((0 : Int) < (n : Int)) = true := by rw [decide_eq_true_iff]; omega
          have hd0 : decide (0 < n) = true := by rw [decide_eq_true_iff]; exact hn0
          have hjl : k < (bfsQ F ⟨cx, cy⟩ k).1.length := by omega
          obtain ⟨e, he⟩ : ∃ e, (bfsQ F ⟨cx, cy⟩ k).1[k]? = some e := ⟨_, List.getElem?_eq_getElem hjl⟩
          have HSt := hid (show bfsQ F ⟨cx, cy⟩ (k + 1) = sidesQ F e 4 (bfsQ F ⟨cx, cy⟩ k) by conv => lhs; unfold bfsQ; rw [he])
          have HOkj := hid (HOk.out k)
          have HE := hid he
          have hlN := HBnd.out _ (HOk.out k)
          have HGk := hid (show ∃ g', g' + (k + 1) = N + 1 ∧ g' < gk from ⟨gk - 1, by omega, by omega⟩)
          have hein := HFin.out e.x e.y ((HOk.out k).fr e (List.mem_of_getElem? he))
          have HBl := hid hbl
          have HSn := hid hsn
          have HPl := hid hpl
          have HQu := hid hqu
          have HNp := hid hn0
          clear hbl hsn hpl hqu hnl hjl he hn0 hlN hgk hkl HLn
          generalize bfsQ F ⟨cx, cy⟩ k = st at *
          obtain ⟨V2, hV2⟩ : ∃ V, V = wr := ⟨_, rfl⟩
          subst hV2
          go_wp2_with fail
          clear hd hd0
          go_loopw [9, 38] (fun qv sv wr => ∃ (s g off n cap : Nat), s ≤ 4 ∧ sv = .int .i64 s ∧ qv = .slice (some ⟨g, off, none⟩) n cap ∧ Below w.heap.size w wr ∧ Seen wr tb xs.length (fun x y => xs.any (atC x y)) ∧ Plq wr mb (sidesQ F e s st).1.length (sidesQ F e s st).2 ∧ QuB wr (mb + 1) g off n cap ((sidesQ F e s st).1.drop k)) (fun _ sv _ => 4 - (intOf sv).toNat)
          case atStart => exact ⟨0, g, off, n, cap, by omega, rfl, rfl, HBl.out, HSn.out, HPl.out, HQu.out⟩
          case round =>
            clear HBl HSn HPl HQu HNp
            obtain ⟨s, g, off, n, cap, hs, rfl, rfl, hbl, hsn, hpl, hqu⟩ := hrel
            have HBl := hid hbl
            have HSn := hid hsn
            have HPl := hid hpl
            have HQu := hid hqu
            have hes : (sidesQ F e s st).1[k]? = some e := by
              obtain ⟨l, hl⟩ := sides_pre (F := F) (e := e) (st := st) s
              rw [hl, List.getElem?_append_left (List.getElem?_eq_some_iff.1 HE.out).1]
              exact HE.out
            have HEs := hid hes
            have hnl := hqu.len
            rw [List.length_drop] at hnl
            have hklt := (List.getElem?_eq_some_iff.1 hes).1
            have hn0 : 0 < n := by omega
            by_cases hs4 : s < 4
            · have hd : decide ((s : Int) < 4) = true := by rw [decide_eq_true_iff]; omega
              have hsi : (s : Int) < 4 := by omega
              have ws : IntKind.i64.wrap ((s : Int) + 1) = (s : Int) + 1 := IntWalk.i64_in _ (by omega)
              have hi0 : (0 : Int) < (n : Int) := by omega
              have HSs := hid (show sidesQ F e (s + 1) st = sideQ F e (s : Int) (sidesQ F e s st) from rfl)
              have HOks := hid (sides_ok HOkj.out (List.mem_of_getElem? HE.out) s (by omega))
              have HLs := HBnd.out _ (sides_ok HOkj.out (List.mem_of_getElem? HE.out) (s + 1) (by omega))
              have HL0 := hid (HBnd.out _ HOks.out)
              have HLs1 := hid HLs
              obtain ⟨q0, q1⟩ := hqu.head (e := e) (by rw [List.getElem?_drop]; exact hes)
              have HNx := hid (fun W => next_I e.x e.y s W (by omega) (by omega))
              have hX : -1 ≤ nx e.x s ∧ nx e.x s ≤ 24 := by unfold nx; split <;> (try split) <;> omega
              have hY : -1 ≤ ny e.y s ∧ ny e.y s ≤ 24 := by unfold ny; split <;> (try split) <;> omega
              have HSq := hid (show sideQ F e (s : Int) (sidesQ F e s st) = (if F (nx e.x s) (ny e.y s) = true ∧ (sidesQ F e s st).2 (nx e.x s) (ny e.y s) < 0 then ((sidesQ F e s st).1 ++ [⟨nx e.x s, ny e.y s⟩], updD (sidesQ F e s st).2 (nx e.x s) (ny e.y s) ((sidesQ F e s st).2 e.x e.y + 1)) else sidesQ F e s st) from rfl)
              rw [HSs.out] at HLs1
              generalize nx e.x s = X at *
              generalize ny e.y s = Y at *
              generalize sidesQ F e s st = st' at *
              have HPm := hid hpl.lt
              have HGl := hid hqu.lt
              have HHn := hid (⟨hnl, hklt, hn0⟩ : n = st'.1.length - k ∧ k < st'.1.length ∧ 0 < n)
              clear hbl hsn hpl hqu hes hnl hklt HLs hn0
              go_wp2_with fail
              refine (HNx.out _).mono ?_
              rintro e1 v1 ⟨rfl, hb1⟩
              obtain ⟨V1, hV1⟩ : ∃ V, V = v1.alloc (Obj.cells #[.int .i8 X, .int .i8 Y] 36) := ⟨_, rfl⟩
              have hbV : Below v1.heap.size v1 V1 := by rw [hV1]; exact (Below.refl _ _).alloc (Nat.le_refl _) _
              have hbW : Below wr.heap.size wr V1 := below_of hb1 hb1.size hbV
              have HT0 := hid (show V1.cell? ⟨v1.heap.size, 0, none⟩ = some (.int .i8 X) by rw [hV1]; simp)
              have HT1 := hid (show V1.cell? ⟨v1.heap.size, 1, none⟩ = some (.int .i8 Y) by rw [hV1]; simp)
              have HBl := hid (below_of HBl.out HBl.out.size hbW)
              have HSn := hid (HSn.out.below hbW HSn.out.lt)
              have HPl := hid (HPl.out.below hbW HPl.out.lt)
              have HQu := hid (HQu.out.below hbW HQu.out.lt)
              have hlk := HPl.out.look (x := X) (y := Y) (by unfold i8B; omega) (by unfold i8B; omega)
              obtain ⟨ub, hub⟩ : ∃ ub, v1.heap.size = ub := ⟨_, rfl⟩
              obtain ⟨d, hdd⟩ : ∃ d, st'.2 X Y = d := ⟨_, rfl⟩
              rw [hdd] at hlk HSq
              have HDd := hid hdd
              rw [hub] at HT0 HT1
              have hub1 : ub < V1.heap.size := World.block_lt_of_cell? _ _ HT0.out
              have hmu : mb < ub := by rw [← hub]; exact Nat.lt_of_lt_of_le HPm.out hb1.size
              have hgu : g < ub := by rw [← hub]; exact Nat.lt_of_lt_of_le HGl.out hb1.size
              have HUb := hid (show (mb < ub ∧ g < ub) ∧ ub < V1.heap.size from ⟨⟨hmu, hgu⟩, hub1⟩)
              clear hbV hbW hb1 hdd hub1 hmu hgu
              go_upto_region 15 with fail
              rw [← hV1]
              (try rw [hub])
              clear hV1 hub q0 q1
              by_cases hd0 : 0 ≤ d
              · have hkd : decide (0 ≤ d) = true := by rw [decide_eq_true_iff]; exact hd0
                have HSn' := hid (show sideQ F e (s : Int) st' = st' by rw [HSq.out, if_neg (fun h => by omega)])
                have t0 := HT0.out
                have t1 := HT1.out
                go_wp2_with fail
                go_roundw
                case measure => simp [intOf]; omega
                case rel => exact ⟨s + 1, g, off, n, cap, by omega, by go_num, rfl, HBl.out, HSn.out, by rw [HSs.out, HSn'.out]; exact HPl.out, by rw [HSs.out, HSn'.out]; exact HQu.out⟩
              · have hkd : decide (0 ≤ d) = false := by rw [decide_eq_false_iff_not]; exact hd0
                have t0 := HT0.out
                have t1 := HT1.out
                have HHs := hid (HHas.out V1 HBl.out X Y)
                obtain ⟨ci, hci⟩ : ∃ ci : Bool, cellIn X Y wi hi = ci := ⟨_, rfl⟩
                rw [hci] at HHs
                have HFXY := hid (HFG.out X Y)
                rw [hci] at HFXY
                clear hci
                go_wp2_with fail
                refine HHs.out.mono ?_
                rintro e2 v2 ⟨rfl, hb2⟩
                have HBl := hid (below_of HBl.out HBl.out.size hb2)
                have HSn := hid (HSn.out.below hb2 HSn.out.lt)
                have HPl := hid (HPl.out.below hb2 HPl.out.lt)
                have HQu := hid (HQu.out.below hb2 HQu.out.lt)
                have HUb := hid (show (mb < ub ∧ g < ub) ∧ ub < v2.heap.size from ⟨HUb.out.1, Nat.lt_of_lt_of_le HUb.out.2 hb2.size⟩)
                have t0 := cell_on hb2 HT0.out
                have t1 := cell_on hb2 HT1.out
                have HT0 := hid t0
                have HT1 := hid t1
                have hsk := HSn.out.look (x := X) (y := Y) (by unfold i8B; omega) (by unfold i8B; omega)
                obtain ⟨tk, htk⟩ : ∃ tk : Bool, xs.any (atC X Y) = tk := ⟨_, rfl⟩
                rw [htk] at hsk HFXY
                clear hb2 htk hlk
                by_cases hfx : F X Y = true
                · have hfx' := hfx
                  rw [HFXY.out] at hfx'
                  obtain ⟨rfl, rfl⟩ : ci = true ∧ tk = false := by revert hfx'; cases ci <;> cases tk <;> simp
                  have HSn' := hid (show sideQ F e (s : Int) st' = (st'.1 ++ [⟨X, Y⟩], updD st'.2 X Y (st'.2 e.x e.y + 1)) by rw [HSq.out, if_pos ⟨hfx, by omega⟩])
                  clear hfx' hfx
                  obtain ⟨q0, q1⟩ := HQu.out.head (e := e) (by rw [List.getElem?_drop]; exact HEs.out)
                  go_upto_region 17 with fail
                  have hlt' := HOks.out.lt e.x e.y
                  have hL0 := HL0.out
                  have hd0e : 0 ≤ st'.2 e.x e.y := (HOks.out.dom e.x e.y).2 (List.mem_of_getElem? HEs.out)
                  obtain ⟨de, hde⟩ : ∃ de, st'.2 e.x e.y = de := ⟨_, rfl⟩
                  rw [hde] at hlt' hd0e HSn'
                  have wde : IntKind.i64.wrap (de + 1) = de + 1 := IntWalk.i64_in _ (by omega)
                  have HD2 : Plq v2.drew mb st'.1.length st'.2 := HPl.out
                  have hle := HD2.look1 (x := e.x) (y := e.y) (by unfold i8B; omega) (by unfold i8B; omega)
                  rw [hde, if_pos hd0e] at hle
                  obtain ⟨w3, hst, hp3, hg3⟩ := HD2.store (by unfold maxLen; omega) (x := X) (y := Y) (by unfold i8B; omega) (by unfold i8B; omega) (de + 1) (by omega) (by omega)
                  have t0' : v2.drew.cell? ⟨ub, 0, none⟩ = some (.int .i8 X) := t0
                  have t1' : v2.drew.cell? ⟨ub, 1, none⟩ = some (.int .i8 Y) := t1
                  have q0' : v2.drew.cell? ⟨g, off, none⟩ = some (.int .i8 e.x) := q0
                  have q1' : v2.drew.cell? ⟨g, off + 1, none⟩ = some (.int .i8 e.y) := q1
                  have HP3 := hid hp3
                  have HG3 := hid hg3
                  clear HD2 hp3 hg3 hlt' hL0 hd0e hde
                  go_region
                  have hg3 : v2.grownBy w3 (some mb) := ⟨HG3.out.os, HG3.out.tape, HG3.out.output, HG3.out.size, HG3.out.block⟩
                  have hub2 : ub < v2.heap.size := HUb.out.2
                  have hum : some ub ≠ some mb := fun h => by injection h with h; have := HUb.out.1.1; omega
                  have hgm : some g ≠ some mb := fun h => by injection h with h; have := HQu.out.bs; omega
                  have htm' : some tb ≠ some mb := fun h => by injection h with h; omega
                  have t03 : w3.cell? ⟨ub, 0, none⟩ = some (.int .i8 X) := (hg3.cell_far ⟨ub, 0, none⟩ hub2 hum).trans HT0.out
                  have t13 : w3.cell? ⟨ub, 1, none⟩ = some (.int .i8 Y) := (hg3.cell_far ⟨ub, 1, none⟩ hub2 hum).trans HT1.out
                  have hmw : ∀ j, some mb = some j → w.heap.size ≤ j := fun j hj => by injection hj with hj; have := HTm.out; have := HCb.out; omega
                  have HBl3 := hid (HBl.out.grown hg3 HBl.out.size hmw)
                  have HSn3 := hid (HSn.out.kept hg3 htm')
                  have HQu3 := hid (HQu.out.kept hg3 hgm)
                  have HHn1 : n ≤ 1048576 := by have h1 := HHn.out; have h2 := HL0.out; omega
                  have hmz : mb < w3.heap.size := HP3.out.lt
                  clear hst hle t0' t1' q0' q1' t0 t1 q0 q1 hg3 hub2 hum hgm htm' hmw
                  go_wp2_with (at_builtin; refine app_q (w := w3) (mb + 1) g off n cap _ HQu3.out HHn1 ⟨X, Y⟩ _ _ rfl rfl rfl _ rfl rfl ?_)
                  intro g' off' cap' w7 hq7 hb7 hg7
                  have HQ7 := hid hq7
                  have HB7 := hid (HBl3.out.trans (hb7.mono (by have := HTm.out; have := HCb.out; omega)))
                  have HG7 := hid hg7
                  have hgm : some mb ≠ some g := fun h => by injection h with h; have := HQu3.out.bs; omega
                  have hgt : some tb ≠ some g := fun h => by injection h with h; have := HQu3.out.bs; omega
                  have HS7 := hid (HSn3.out.kept hg7 hgt)
                  have HP7 : Hid (Plq w7 mb (st'.1 ++ [(⟨X, Y⟩ : Ce)]).length (updD st'.2 X Y (de + 1))) := hid (by rw [List.length_append]; exact HP3.out.kept hg7 hgm)
                  have HQ8 : Hid (QuB w7 (mb + 1) g' off' (n + 1) cap' ((st'.1 ++ [(⟨X, Y⟩ : Ce)]).drop k)) := hid (by rw [List.drop_append_of_le_length (by have := HHn.out; omega)]; exact hq7)
                  clear hq7 hb7 hg7 hgm hgt HQ7
                  go_wp2_with fail
                  go_roundw
                  case measure => simp [intOf]; omega
                  case rel => exact ⟨s + 1, g', off', n + 1, cap', by omega, by go_num, by go_num, HB7.out, HS7.out, by rw [HSs.out, HSn'.out]; exact HP7.out, by rw [HSs.out, HSn'.out]; exact HQ8.out⟩
                · have HSn' := hid (show sideQ F e (s : Int) st' = st' by rw [HSq.out, if_neg (fun h => hfx h.1)])
                  have hfx' : ci = false ∨ (ci = true ∧ tk = true) := by rw [HFXY.out] at hfx; revert hfx; cases ci <;> cases tk <;> simp
                  clear hfx HFXY
                  rcases hfx' with rfl | ⟨rfl, rfl⟩
                  all_goals (
                    go_wp2_with fail
                    go_roundw
                    case measure => simp [intOf]; omega
                    case rel => exact ⟨s + 1, g, off, n, cap, by omega, by go_num, rfl, HBl.out, HSn.out, by rw [HSs.out, HSn'.out]; exact HPl.out, by rw [HSs.out, HSn'.out]; exact HQu.out⟩)
            · have hs4' : s = 4 := by omega
              subst hs4'
              have hd : decide ((4 : Nat) < (4 : Nat)) = false := by decide
              have HQc := hid (hqu.cut hn0)
              have HQc0 := hid (hqu.cut0 hn0)
              rw [List.drop_drop] at HQc HQc0
              have hkl1 : k + 1 ≤ (sidesQ F e 4 st).1.length := hklt
              have hle1 := hqu.le
              have hle2 : n ≤ n + 0 := Nat.le_refl _
              clear hnl hes hbl hsn hpl hqu hklt
              by_cases hc1 : cap = 1
              · have HQ1 := hid (HQc0.out hc1)
                subst hc1
                obtain rfl : n = 1 := by omega
                clear hle1 hle2 HQc HQc0
                go_wp2_with fail
                obtain ⟨g', hg1, hg2⟩ := HGk.out
                go_roundg g'
                case measure => exact hg2
                case rel => exact ⟨k + 1, g, off, 0, 0, hg1, rfl, by rw [HSt.out]; exact hkl1, HBl.out, HSn.out, by rw [HSt.out]; exact HPl.out, by rw [HSt.out]; exact HQ1.out⟩
              · have hc2 : 1 < cap := by omega
                have hc3 : ¬ cap ≤ 1 := by omega
                have hc4 : ¬ cap - 1 = 0 := by omega
                have HQ1 := hid HQc.out
                clear HQc HQc0
                go_wp2_with fail
                obtain ⟨g', hg1, hg2⟩ := HGk.out
                go_roundg g'
                case measure => exact hg2
                case rel => exact ⟨k + 1, g, off + 2, n - 1, cap - 1, hg1, rfl, by rw [HSt.out]; exact hkl1, HBl.out, HSn.out, by rw [HSt.out]; exact HPl.out, by rw [HSt.out]; exact HQ1.out⟩
        · obtain rfl : n = 0 := by omega
          have hd : decide ((0 : Int) < ((0 : Nat) : Int)) = false := by decide
          have hE := HEnd.out k (by omega)
          have hDD := HD.out
          rw [hE] at hDD
          have HDD := hid hDD
          have HPl := hid hpl
          have HBl := hid hbl
          have hle : w.heap.size ≤ mb := by have := HTm.out; have := HCb.out; omega
          clear hE hDD hpl hbl hqu hsn hkl hgk hnl HLn hn0
          go_wp2_with fail
          refine bodyPost_ret (v := .map (some mb)) (by simp [results, Try.results67, go_sem]) rfl ⟨mb, (bfsQ F ⟨cx, cy⟩ k).1.length, rfl, HBl.out, hle, ?_⟩
          rw [HDD.out]
          exact HPl.out
end Go.Proofs.Ytgkgklgeobbmlaa
