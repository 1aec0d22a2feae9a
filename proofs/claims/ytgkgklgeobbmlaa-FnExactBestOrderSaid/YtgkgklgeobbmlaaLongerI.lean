/-
  A line that is longer by two: the first place for it; the program's.
  Conditions: the cells of the line lie on a board.
-/
import Derived.Test.YtgkgklgeobbmlaaCanC
import Derived.Test.YtgkgklgeobbmlaaInsC
import Derived.Deep.RegionHeld3
import Derived.Deep.CutRange
namespace Go.Proofs.Ytgkgklgeobbmlaa
open Go.RowKit
set_option linter.unusedSimpArgs false
set_option linter.unusedVariables false

theorem same_of {X : World} {a : Addr} {v : Value} (h : (X.cell? a).isSome = true) : (X.setCell a v).cell? a = some v := by
  obtain ⟨u, hu⟩ := Option.isSome_iff_exists.1 h
  exact World.cell?_setCell_same _ _ _ hu
theorem isSome_set {X : World} {a b : Addr} {v : Value} (h : (X.cell? b).isSome = true) : ((X.setCell a v).cell? b).isSome = true := by
  by_cases e : a = b
  · subst e; rw [same_of h]; rfl
  · rw [World.cell?_setCell_other _ _ _ _ e]; exact h
theorem held5 {X w' : World} {b0 b1 b2 b3 b4 o0 o1 o2 o3 o4 : Nat} {v0 v1 v2 v3 v4 : Value} (hb : Below X.heap.size X w')
    (h : X.cell? ⟨b0, o0, none⟩ = some v0 ∧ X.cell? ⟨b1, o1, none⟩ = some v1 ∧ X.cell? ⟨b2, o2, none⟩ = some v2 ∧ X.cell? ⟨b3, o3, none⟩ = some v3 ∧ X.cell? ⟨b4, o4, none⟩ = some v4) :
    w'.cell? ⟨b0, o0, none⟩ = some v0 ∧ w'.cell? ⟨b1, o1, none⟩ = some v1 ∧ w'.cell? ⟨b2, o2, none⟩ = some v2 ∧ w'.cell? ⟨b3, o3, none⟩ = some v3 ∧ w'.cell? ⟨b4, o4, none⟩ = some v4 :=
  ⟨cell_on hb h.1, cell_on hb h.2.1, cell_on hb h.2.2.1, cell_on hb h.2.2.2.1, cell_on hb h.2.2.2.2⟩
theorem litV (W : World) (px py qx qy : Int) : (W.alloc (.cells #[.int .i8 px, .int .i8 py, .int .i8 qx, .int .i8 qy] 36)).ownsRow 0 36 2 (.slice (some ⟨W.heap.size, 0, none⟩) 2 2) 2 [.int .i8 px, .int .i8 py, .int .i8 qx, .int .i8 qy] :=
  World.ownsRow_lit W #[.int .i8 px, .int .i8 py, .int .i8 qx, .int .i8 qy] 2 (Nat.zero_le _) (by simp [maxLen]) rfl
theorem insert_J (w : World) (base : Nat) (A : Option Addr) (c : Nat) (xs : List Ce) (own : w.ownsRow base 36 2 (.slice A xs.length c) xs.length (xs.flatMap Ce.enc)) (hbase : base ≤ w.heap.size) (i vb : Nat) (iv : Int) (hiv : iv = (i : Int)) (hi : i < xs.length) (hln : xs.length ≤ 1073741824) (p q : Ce) (base2 : Nat)
    (vown : w.ownsRow base2 36 2 (.slice (some ⟨vb, 0, none⟩) 2 2) 2 [.int .i8 p.x, .int .i8 p.y, .int .i8 q.x, .int .i8 q.y]) (hne : ∀ a, A = some a → vb ≠ a.block) :
    Calls Try.prog 95 #[.slice A xs.length c, .int .i64 iv, .slice (some ⟨vb, 0, none⟩) 2 2] w fun e w' =>
      ∃ A' c', e = .returned (.slice A' (xs.length + 2) c') ∧ Below base w w' ∧ w'.ownsRow base 36 2 (.slice A' (xs.length + 2) c') (xs.length + 2) ((xs.take i ++ [p, q] ++ xs.drop i).flatMap Ce.enc) ∧ ∀ a, A = some a → w.grownBy w' (some a.block) := by
  subst hiv
  exact insert_I w base A c xs own hbase i vb hi hln p q base2 vown hne
theorem held5g {X w' : World} {g b0 b1 b2 b3 b4 o0 o1 o2 o3 o4 : Nat} {v0 v1 v2 v3 v4 : Value} (hg : X.grownBy w' (some g)) (n0 : b0 ≠ g) (n1 : b1 ≠ g) (n2 : b2 ≠ g) (n3 : b3 ≠ g) (n4 : b4 ≠ g)
    (h : X.cell? ⟨b0, o0, none⟩ = some v0 ∧ X.cell? ⟨b1, o1, none⟩ = some v1 ∧ X.cell? ⟨b2, o2, none⟩ = some v2 ∧ X.cell? ⟨b3, o3, none⟩ = some v3 ∧ X.cell? ⟨b4, o4, none⟩ = some v4) :
    w'.cell? ⟨b0, o0, none⟩ = some v0 ∧ w'.cell? ⟨b1, o1, none⟩ = some v1 ∧ w'.cell? ⟨b2, o2, none⟩ = some v2 ∧ w'.cell? ⟨b3, o3, none⟩ = some v3 ∧ w'.cell? ⟨b4, o4, none⟩ = some v4 :=
  ⟨(hg.cell_far ⟨_, _, none⟩ (World.block_lt_of_cell? _ _ h.1) (by simpa using n0)).trans h.1, (hg.cell_far ⟨_, _, none⟩ (World.block_lt_of_cell? _ _ h.2.1) (by simpa using n1)).trans h.2.1, (hg.cell_far ⟨_, _, none⟩ (World.block_lt_of_cell? _ _ h.2.2.1) (by simpa using n2)).trans h.2.2.1, (hg.cell_far ⟨_, _, none⟩ (World.block_lt_of_cell? _ _ h.2.2.2.1) (by simpa using n3)).trans h.2.2.2.1, (hg.cell_far ⟨_, _, none⟩ (World.block_lt_of_cell? _ _ h.2.2.2.2) (by simpa using n4)).trans h.2.2.2.2⟩
theorem own_addr {w : World} {base : Nat} {e : TypeId} {size n c : Nat} {A : Option Addr} {xs : List Value} (h : w.ownsRow base e size (.slice A n c) n xs) (hn : 0 < n) : ∃ g, A = some ⟨g, 0, none⟩ := by
  obtain ⟨g, cap', hv, _, _⟩ := h.form hn
  injection hv with hv1
  exact ⟨g, hv1⟩
theorem lt_of_alloc {X w' : World} {o : Obj} (hb : Below (X.alloc o).heap.size (X.alloc o) w') : X.heap.size < w'.heap.size := by have := hb.size; simp at this; omega
theorem lt2_of_alloc {X w' : World} {o o' : Obj} (hb : Below ((X.alloc o).alloc o').heap.size ((X.alloc o).alloc o') w') : X.heap.size < w'.heap.size ∧ X.heap.size + 1 < w'.heap.size := by have := hb.size; simp at this; omega
set_option maxRecDepth 100000 in
set_option maxHeartbeats 6000000 in
theorem longer_I (b : Nat) (wi hi : Int) (a : Option Addr) (c : Nat) (xs : List Pc) (ac : Option Addr) (cc : Nat) (cells : List Ce) (ak : Option Addr) (ck : Nat) (kept : List Ce) (w : World) (hb : BdA w b wi hi a xs.length c) (h : SlA Pc.enc 5 w a xs)
    (h2 : SlA Ce.enc 2 w ac cells) (hnc : ac = none → cc = 0) (hln : cells.length ≤ 1048576) (okc : ∀ p ∈ cells, (0 ≤ p.x ∧ p.x ≤ 23) ∧ (0 ≤ p.y ∧ p.y ≤ 23)) (h3 : SlA Ce.enc 2 w ak kept) :
    Calls Try.prog 59 #[.pointer (some ⟨b, 0, none⟩), .slice ac cells.length cc, .slice ak kept.length ck] w (ResL 36 w (longerG wi hi xs cells kept).1 (longerG wi hi xs cells kept).2) := by
  have sc := h2.small
  have sk := h3.small
  obtain ⟨R, hR⟩ : ∃ R, R = longerG wi hi xs cells kept := ⟨_, rfl⟩
  rw [← hR]
  have HR := hid hR
  clear hR
  obtain ⟨W0, hW0⟩ : ∃ W, W = ((w.alloc (Obj.cells #[.pointer (some ⟨b, 0, none⟩)] 61)).alloc (Obj.cells #[.slice ac cells.length cc] 67)).alloc (Obj.cells #[.slice ak kept.length ck] 67) := ⟨_, rfl⟩
  have B0 : Below w.heap.size w W0 := by rw [hW0]; exact (((Below.refl _ _).alloc (Nat.le_refl _) _).alloc (by simp) _).alloc (by simp; omega) _
  have hz0 : W0.heap.size = w.heap.size + 3 := by rw [hW0]; simp
  have m3 : W0.cell? ⟨w.heap.size, 0, none⟩ = some (.pointer (some ⟨b, 0, none⟩)) := by rw [hW0]; simp [go_sem]
  have m4 : W0.cell? ⟨w.heap.size + 1, 0, none⟩ = some (.slice ac cells.length cc) := by rw [hW0]; simp [go_sem]
  have m5 : W0.cell? ⟨w.heap.size + 2, 0, none⟩ = some (.slice ak kept.length ck) := by rw [hW0]; simp [go_sem]
  have Q1 := hid (hb.below B0 hb.lt)
  have Q2 := hid (h.below B0)
  have Q3 := hid (h2.below B0)
  have Q4 := hid (h3.below B0)
  have Q0 := hid B0
  clear hb h h2 h3 B0
  go_enter Try.func59, Try.ntmps59
  go_wp2_with fail
  rw [← hW0]
  clear hW0
  go_loopw [9] (fun i wr => ∃ k : Nat, k ≤ cells.length ∧ i = .int .i64 ((k : Int) + 1) ∧ (∀ j, j < 4 * k → okK wi hi xs cells kept j = false) ∧ Below W0.heap.size W0 wr) (fun i _ => cells.length + 1 - (intOf i).toNat)
  case atStart => exact ⟨0, Nat.zero_le _, rfl, fun j hj => by omega, Below.refl _ _⟩
  case round =>
    obtain ⟨k, hk, rfl, ht, hbl⟩ := hrel
    have HT := hid ht
    clear ht
    have p4 := cell_on hbl m4
    by_cases hlt : k + 1 < cells.length
    · have hd1 : decide ((k : Int) + 1 < (cells.length : Int)) = true := by rw [decide_eq_true_iff]; omega
      go_wp2_with fail
      go_loopw [20] (fun i wr => ∃ s : Nat, s ≤ 4 ∧ i = .int .i64 s ∧ (∀ j, j < 4 * k + s → okK wi hi xs cells kept j = false) ∧ Below W0.heap.size W0 wr) (fun i _ => 4 - (intOf i).toNat)
      case atStart => exact ⟨0, Nat.zero_le _, rfl, fun j hj => HT.out j (by omega), hbl⟩
      case round =>
        obtain ⟨s, hs, rfl, ht2, hbl2⟩ := hrel
        have HT2 := hid ht2
        clear ht2
        by_cases hs4 : s < 4
        · have hsl := Q3.out.below hbl2
          obtain ⟨b1, o1, ha, hb1, hc1⟩ := hsl.cells (by omega)
          have e1 : cells[k]? = some cells[k] := List.getElem?_eq_getElem (by omega)
          have e2 : cells[k + 1]? = some cells[k + 1] := List.getElem?_eq_getElem hlt
          have okp := okc _ (List.getElem_mem (show k < cells.length by omega))
          have okq := okc _ (List.getElem_mem hlt)
          have Hp := hid e1
          have Hq := hid e2
          clear e1 e2
          generalize cells[k] = p at *
          generalize cells[k + 1] = q at *
          have f0 : wr.cell? ⟨b1, o1 + k * 2, none⟩ = some (.int .i8 p.x) := hc1 k _ Hp.out 0 _ rfl
          have f1 : wr.cell? ⟨b1, o1 + k * 2 + 1, none⟩ = some (.int .i8 p.y) := hc1 k _ Hp.out 1 _ rfl
          have f2 : wr.cell? ⟨b1, o1 + (k + 1) * 2, none⟩ = some (.int .i8 q.x) := hc1 (k + 1) _ Hq.out 0 _ rfl
          have f3 : wr.cell? ⟨b1, o1 + (k + 1) * 2 + 1, none⟩ = some (.int .i8 q.y) := hc1 (k + 1) _ Hq.out 1 _ rfl
          subst ha
          have f4 : wr.cell? ⟨w.heap.size + 1, 0, none⟩ = some (.slice (some ⟨b1, o1, none⟩) cells.length cc) := cell_on hbl2 m4
          have hz := hbl2.size
          have hwk : IntKind.i64.wrap ((k : Int) + 1 - 1) = (k : Int) := by rw [Int.add_sub_cancel]; exact IntWalk.i64_in _ (by omega)
          have hwk2 : (k : Int) + 1 - 1 = (k : Int) := by omega
          have ht1 : ((k : Int) + 1).toNat = k + 1 := by omega
          have hi1 : (k : Int) + 1 < (cells.length : Int) := by omega
          have hi0 : (0 : Int) ≤ (k : Int) + 1 := by omega
          have hi2 : (k : Int) < (cells.length : Int) := by omega
          have hi3 : k < cells.length := by omega
          have hwk3 : IntKind.i64.wrap (k : Int) = (k : Int) := IntWalk.i64_in _ (by omega)
          clear hc1
          have hds : decide ((s : Int) < 4) = true := by rw [decide_eq_true_iff]; omega
          go_upto_region 8 with fail
          go_cut [11, 12] from 23 to 51 (fun s11 s12 wx => ∃ B1 B2 : Nat, s11 = .pointer (some ⟨B1, 0, none⟩) ∧ s12 = .pointer (some ⟨B2, 0, none⟩) ∧ Below wr.heap.size wr wx ∧ wx.cell? ⟨B1, 0, none⟩ = some (.int .i8 (nx p.x s)) ∧ wx.cell? ⟨B1, 1, none⟩ = some (.int .i8 (ny p.y s)) ∧ wx.cell? ⟨B2, 0, none⟩ = some (.int .i8 (nx q.x s)) ∧ wx.cell? ⟨B2, 1, none⟩ = some (.int .i8 (ny q.y s)))
          case first =>
            have g0 : w.heap.size + 1 < wr.heap.size := by omega
            have rp : (-100 ≤ p.x ∧ p.x ≤ 100 ∧ -100 ≤ p.y ∧ p.y ≤ 100) ∧ 0 ≤ (s : Int) ∧ (s : Int) ≤ 3 := by omega
            have rq : (-100 ≤ q.x ∧ q.x ≤ 100 ∧ -100 ≤ q.y ∧ q.y ≤ 100) ∧ 0 ≤ (s : Int) ∧ (s : Int) ≤ 3 := by omega
            have RP := hid rp
            have RQ := hid rq
            clear rp rq hz hz0 sc sk hln okc HR m3 m4 m5 Q0 Q1 Q2 Q3 Q4 HT HT2 p4 hlt hd1 hbl hbl2 hsl okp okq Hp Hq hk hs hs4 hnc
            go_region_held3 (fun w' => w'.cell? ⟨w.heap.size + 1, 0, none⟩ = some (.slice (some ⟨b1, o1, none⟩) cells.length cc) ∧ w'.cell? ⟨b1, o1 + k * 2, none⟩ = some (.int .i8 p.x) ∧ w'.cell? ⟨b1, o1 + k * 2 + 1, none⟩ = some (.int .i8 p.y) ∧ w'.cell? ⟨b1, o1 + (k + 1) * 2, none⟩ = some (.int .i8 q.x) ∧ w'.cell? ⟨b1, o1 + (k + 1) * 2 + 1, none⟩ = some (.int .i8 q.y))
              (first | with_reducible assumption | with_reducible exact ⟨f4, f0, f1, f2, f3⟩ | with_reducible exact held5 ((Below.refl _ _).alloc (Nat.le_refl _) _) (by with_reducible assumption) | (with_reducible refine held5 (X := wr) ?_ ⟨f4, f0, f1, f2, f3⟩; (repeat (first | with_reducible assumption | with_reducible exact Below.refl _ _ | (with_reducible refine Below.setCell ?_ (by first | omega | (simp only [World.size_alloc, World.size_drew, World.size_setCell]; omega)) _) | (with_reducible refine Below.alloc ?_ (by first | omega | (simp only [World.size_alloc, World.size_drew, World.size_setCell]; omega)) _) | with_reducible refine Below.drew ?_))) | go_keep)
              (first | (go_at_call 68; refine (next_I _ _ _ _ ?h0 ?h1).mono ?_; (case h0 => first | exact RP.out.1 | exact RQ.out.1); (case h1 => exact RP.out.2); rintro e w' ⟨rfl, hb9⟩; have hS := held5 hb9 (by with_reducible assumption); have T9 : Below wr.heap.size wr w' := (by with_reducible refine below_of ?_ ?_ hb9; (· (repeat (first | with_reducible assumption | with_reducible exact Below.refl _ _ | (with_reducible refine Below.setCell ?_ (by first | omega | (simp only [World.size_alloc, World.size_drew, World.size_setCell]; omega)) _) | (with_reducible refine Below.alloc ?_ (by first | omega | (simp only [World.size_alloc, World.size_drew, World.size_setCell]; omega)) _) | with_reducible refine Below.drew ?_))); (· first | omega | (simp only [World.size_alloc, World.size_drew, World.size_setCell]; omega))); obtain ⟨hcb, hfb⟩ := bcell hb9; have hzb := hb9.size; (try simp at hzb); (try have g3 : wr.heap.size ≤ w'.heap.size := by omega); (try have g1 : wr.heap.size < w'.heap.size := by omega); (try have g2 : wr.heap.size + 1 < w'.heap.size := by omega); (try have g4 : wr.heap.size + 1 ≤ w'.heap.size := by omega); (first | (have g6 := (lt2_of_alloc hb9).1; have g7 := (lt2_of_alloc hb9).2) | have g5 := lt_of_alloc hb9 | skip)))
            all_goals (
              go_wp2_with fail
              go_meet
              refine ⟨_, _, rfl, rfl, ?_, ?_, ?_, ?_, ?_⟩
              · (repeat (first | with_reducible assumption | with_reducible exact Below.refl _ _ | (with_reducible refine Below.setCell ?_ (by first | omega | (simp only [World.size_alloc, World.size_drew, World.size_setCell]; omega)) _) | (with_reducible refine Below.alloc ?_ (by first | omega | (simp only [World.size_alloc, World.size_drew, World.size_setCell]; omega)) _) | with_reducible refine Below.drew ?_))
              all_goals (first | (simp [go_sem, *]; done) | ((repeat (refine (World.cell?_setCell_other _ _ _ _ (by intro e; simp only [Addr.mk.injEq] at e; omega)).trans ?_)); refine same_of ?_; (repeat (refine isSome_set ?_)); simp [go_sem, *]; done) | fail))
          case rest =>
            obtain ⟨B1, B2, rfl, rfl, BX, x0, x1, y0, y1⟩ := hcut
            have BC := below_of hbl2 hz BX
            have hzc := BC.size
            have hzw := BX.size
            have EC := below_of Q0.out (by omega) BC
            have C1 := hid (fun W (hB : Below wc.heap.size wc W) => canFn_I b wi hi a c xs (some ⟨b1, o1, none⟩) cc cells ak ck kept (nx p.x s) (ny p.y s) w.heap.size (w.heap.size + 1) (w.heap.size + 2) W (Q1.out.below (below_of BC hzc hB) Q1.out.lt) (Q2.out.below (below_of BC hzc hB)) (Q3.out.below (below_of BC hzc hB)) (Q4.out.below (below_of BC hzc hB)) (by have := hB.size; omega) (by have := hB.size; omega) (by have := hB.size; omega) (cell_on (below_of BC hzc hB) m3) (cell_on (below_of BC hzc hB) m4) (cell_on (below_of BC hzc hB) m5))
            have C2 := hid (fun W (hB : Below wc.heap.size wc W) => canFn_I b wi hi a c xs (some ⟨b1, o1, none⟩) cc cells ak ck kept (nx q.x s) (ny q.y s) w.heap.size (w.heap.size + 1) (w.heap.size + 2) W (Q1.out.below (below_of BC hzc hB) Q1.out.lt) (Q2.out.below (below_of BC hzc hB)) (Q3.out.below (below_of BC hzc hB)) (Q4.out.below (below_of BC hzc hB)) (by have := hB.size; omega) (by have := hB.size; omega) (by have := hB.size; omega) (cell_on (below_of BC hzc hB) m3) (cell_on (below_of BC hzc hB) m4) (cell_on (below_of BC hzc hB) m5))
            have HO := hid (okK_at (wi := wi) (hi := hi) (ps := xs) (barred := kept) hs4 Hp.out Hq.out)
            have HLg := hid (longer_at (wi := wi) (hi := hi) (ps := xs) (barred := kept) hs4 hlt Hp.out Hq.out HT2.out)
            rw [okL_can] at HO HLg
            obtain ⟨d1, hd1⟩ : ∃ d : Bool, canG wi hi xs cells kept (nx p.x s) (ny p.y s) = d := ⟨_, rfl⟩
            obtain ⟨d2, hd2⟩ : ∃ d : Bool, canG wi hi xs cells kept (nx q.x s) (ny q.y s) = d := ⟨_, rfl⟩
            rw [hd1] at C1 HO HLg
            rw [hd2] at C2 HO HLg
            obtain ⟨px, hpx⟩ : ∃ v, nx p.x s = v := ⟨_, rfl⟩
            obtain ⟨py, hpy⟩ : ∃ v, ny p.y s = v := ⟨_, rfl⟩
            obtain ⟨qx, hqx⟩ : ∃ v, nx q.x s = v := ⟨_, rfl⟩
            obtain ⟨qy, hqy⟩ : ∃ v, ny q.y s = v := ⟨_, rfl⟩
            rw [hpx] at x0 C1 HLg
            rw [hpy] at x1 C1 HLg
            rw [hqx] at y0 C2 HLg
            rw [hqy] at y1 C2 HLg
            have p4 : wc.cell? ⟨w.heap.size + 1, 0, none⟩ = some (.slice (some ⟨b1, o1, none⟩) cells.length cc) := cell_on BC m4
            clear hd1 hd2 hpx hpy hqx hqy f0 f1 f2 f3 f4 hwk hwk2 hwk3 hi2
            go_wp2_with fail
            refine (C1.out _ (Below.refl _ _)).mono ?_
            rintro e v1 ⟨rfl, t1⟩
            have x0 := cell_on t1 x0
            have x1 := cell_on t1 x1
            have y0 := cell_on t1 y0
            have y1 := cell_on t1 y1
            have p4 := cell_on t1 p4
            have z1 := t1.size
            cases d1
            · go_wp2_with fail
              exact ⟨⟨s + 1, by omega, by go_num, not_step HT2.out HO.out, below_of BC hzc t1⟩, by simp [intOf]; omega⟩
            · go_wp2_with fail
              refine (C2.out _ t1).mono ?_
              rintro e v2 ⟨rfl, t2⟩
              have T2 := below_then t1 t2
              have x0 := cell_on t2 x0
              have x1 := cell_on t2 x1
              have y0 := cell_on t2 y0
              have y1 := cell_on t2 y1
              have p4 := cell_on t2 p4
              have z2 := T2.size
              cases d2
              · go_wp2_with fail
                exact ⟨⟨s + 1, by omega, by go_num, not_step HT2.out HO.out, below_of BC hzc T2⟩, by simp [intOf]; omega⟩
              · have E2 := below_of EC (by omega) T2
                have he2 := E2.size
                have HCl := hid (fun W (hB : Below v2.heap.size v2 W) => clone_Ce_I (some ⟨b1, o1, none⟩) cc cells W (Q3.out.below (below_of BC hzc (below_then T2 hB))) (by simp) hln)
                have HL9 := hid (HR.out.trans (HLg.out rfl))
                have HI0 := hid hlt
                have hi0' : (k : Int) + 1 = ((k + 1 : Nat) : Int) := by omega
                have HI1 := hid hi0'
                have hcl0 : 0 < cells.length := by omega
                have hB1l := World.block_lt_of_cell? _ _ x0
                have hB2l := World.block_lt_of_cell? _ _ y0
                have hB3l := World.block_lt_of_cell? _ _ p4
                simp only at hB1l hB2l hB3l
                clear C1 C2 HO HLg HT HT2 Q1 Q2 Q3 Q4 m3 m4 m5 Hp Hq okp okq hsl hbl hbl2 BX hz hz0 hi0'
                go_wp2_with fail
                go_region_held3 (fun w' => w'.cell? ⟨w.heap.size + 1, 0, none⟩ = some (.slice (some ⟨b1, o1, none⟩) cells.length cc) ∧ w'.cell? ⟨B1, 0, none⟩ = some (.int .i8 px) ∧ w'.cell? ⟨B1, 1, none⟩ = some (.int .i8 py) ∧ w'.cell? ⟨B2, 0, none⟩ = some (.int .i8 qx) ∧ w'.cell? ⟨B2, 1, none⟩ = some (.int .i8 qy))
                  (first | with_reducible assumption | with_reducible exact ⟨p4, x0, x1, y0, y1⟩ | with_reducible exact held5 ((Below.refl _ _).alloc (Nat.le_refl _) _) (by with_reducible assumption) | (with_reducible refine held5 (X := v2) ?_ ⟨p4, x0, x1, y0, y1⟩; (repeat (first | with_reducible assumption | with_reducible exact Below.refl _ _ | (with_reducible refine Below.setCell ?_ (by first | omega | (simp only [World.size_alloc, World.size_drew, World.size_setCell]; omega)) _) | (with_reducible refine Below.alloc ?_ (by first | omega | (simp only [World.size_alloc, World.size_drew, World.size_setCell]; omega)) _) | with_reducible refine Below.drew ?_))))
                  (first
                    | (go_at_call 95; refine (insert_J _ w.heap.size (some ⟨g9, 0, none⟩) c9 cells ?own ?hbs (k + 1) _ _ HI1.out HI0.out (by omega) ⟨px, py⟩ ⟨qx, qy⟩ 0 ?vown ?hne).mono ?_; (case own => first | with_reducible exact own9' | with_reducible exact own_step own9' ((Below.refl _ _).alloc (Nat.le_refl _) _)); (case hbs => first | omega | (simp only [World.size_alloc, World.size_drew, World.size_setCell]; omega)); (case vown => first | with_reducible exact V9 | with_reducible exact litV _ _ _ _ _); (case hne => exact fun a ha => by cases ha; (show _ ≠ g9); omega); rintro e w' ⟨A8, c8, rfl, hbI, ownI, hgI⟩; have hS := held5g (hgI _ rfl) nb0 nb1 nb1 nb2 nb2 (by with_reducible assumption); have TI : Below w.heap.size w w' := (by with_reducible refine Below.trans (below_of E2 he2 ?_) hbI; (repeat (first | with_reducible assumption | with_reducible exact Below.refl _ _ | (with_reducible refine Below.setCell ?_ (by first | omega | (simp only [World.size_alloc, World.size_drew, World.size_setCell]; omega)) _) | (with_reducible refine Below.alloc ?_ (by first | omega | (simp only [World.size_alloc, World.size_drew, World.size_setCell]; omega)) _) | with_reducible refine Below.drew ?_))))
                    | (go_at_call 96; refine (HCl.out _ ?h0).mono ?_; (case h0 => (repeat (first | with_reducible assumption | with_reducible exact Below.refl _ _ | (with_reducible refine Below.setCell ?_ (by first | omega | (simp only [World.size_alloc, World.size_drew, World.size_setCell]; omega)) _) | (with_reducible refine Below.alloc ?_ (by first | omega | (simp only [World.size_alloc, World.size_drew, World.size_setCell]; omega)) _) | with_reducible refine Below.drew ?_))); rintro e w' ⟨A9, c9, rfl, hb9, own9⟩; have hS := held5 hb9 (by with_reducible assumption); have T9 : Below v2.heap.size v2 w' := (by with_reducible refine below_of ?_ ?_ hb9; (· (repeat (first | with_reducible assumption | with_reducible exact Below.refl _ _ | (with_reducible refine Below.setCell ?_ (by first | omega | (simp only [World.size_alloc, World.size_drew, World.size_setCell]; omega)) _) | (with_reducible refine Below.alloc ?_ (by first | omega | (simp only [World.size_alloc, World.size_drew, World.size_setCell]; omega)) _) | with_reducible refine Below.drew ?_))); (· first | omega | (simp only [World.size_alloc, World.size_drew, World.size_setCell]; omega))); have own9' := own_low own9 (show w.heap.size ≤ _ from (by first | omega | (simp only [World.size_alloc, World.size_drew, World.size_setCell]; omega))); (first | (have V9 : World.ownsRow w' 0 36 2 (.slice (some ⟨v2.heap.size, 0, none⟩) 2 2) 2 [.int .i8 px, .int .i8 py, .int .i8 qx, .int .i8 qy] := by exact own_step (litV v2.drew px py qx qy) hb9) | skip); have T9z := T9.size; obtain ⟨g9, rfl⟩ := own_addr own9 hcl0; have L9 := own9.lt _ rfl; simp only [World.size_alloc, World.size_drew] at L9; have nb0 : w.heap.size + 1 ≠ g9 := (by omega); have nb1 : B1 ≠ g9 := (by omega); have nb2 : B2 ≠ g9 := (by omega)))
                all_goals (
                  go_wp2_with fail
                  refine bodyPost_ret (v := .tuple #[.slice A8 (cells.length + 2) c8, .bool true]) (by simp [results, Try.results59, go_sem]) rfl ?_
                  rw [HL9.out]
                  have hlen : cells.length + 2 = (cells.take (k + 1) ++ [(⟨px, py⟩ : Ce), ⟨qx, qy⟩] ++ cells.drop (k + 1)).length := by
                    have := HI0.out
                    simp only [List.length_append, List.length_take, List.length_drop, List.length_cons, List.length_nil]
                    omega
                  rw [hlen] at ownI
                  exact ⟨A8, c8, by rw [hlen], TI, ownI⟩)
        · obtain rfl : s = 4 := by omega
          go_wp2_with fail
          exact ⟨⟨k + 1, by omega, by go_num, fun j hj => HT2.out j (by omega), hbl2⟩, by simp [intOf]; omega⟩
    · have hd1 : decide ((k : Int) + 1 < (cells.length : Int)) = false := by rw [decide_eq_false_iff_not]; omega
      have HB := hid (HR.out.trans (longer_none (fun j hj => HT.out j (by omega))))
      have hz9 := hbl.size
      have EB := below_of Q0.out (by omega) hbl
      go_wp2_with fail
      refine bodyPost_ret (v := .tuple #[.slice none 0 0, .bool false]) (by simp [results, Try.results59, go_sem]) rfl ?_
      rw [HB.out]
      exact ⟨none, 0, rfl, EB, World.ownsRow_nil _ _ _ _⟩
end Go.Proofs.Ytgkgklgeobbmlaa
