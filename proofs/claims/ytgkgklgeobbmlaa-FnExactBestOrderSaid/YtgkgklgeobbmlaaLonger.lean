/-
  A line that is longer by two: the first place for it; the reference's.
  Conditions: the cells of the line lie on a board.
-/
import Derived.Test.YtgkgklgeobbmlaaPathC
import Derived.Test.YtgkgklgeobbmlaaSafeA
namespace Go.Proofs.Ytgkgklgeobbmlaa
open Go.RowKit
set_option linter.unusedSimpArgs false
set_option linter.unusedVariables false

def okL (wi hi : Int) (ps : List Pc) (cells barred : List Ce) (a b : Ce) (s : Int) : Bool :=
  freeG wi hi ps (nx a.x s) (ny a.y s) && (freeG wi hi ps (nx b.x s) (ny b.y s) && (!cells.any (isC (nx a.x s) (ny a.y s)) && (!cells.any (isC (nx b.x s) (ny b.y s)) && (!barred.any (isC (nx a.x s) (ny a.y s)) && !barred.any (isC (nx b.x s) (ny b.y s))))))
def okK (wi hi : Int) (ps : List Pc) (cells barred : List Ce) (k : Nat) : Bool := match cells[k / 4]?, cells[k / 4 + 1]? with
  | some a, some b => okL wi hi ps cells barred a b ((k % 4 : Nat) : Int)
  | _, _ => false
def insL (cells : List Ce) (k : Nat) : List Ce := match cells[k / 4]?, cells[k / 4 + 1]? with
  | some a, some b => cells.take (k / 4 + 1) ++ [⟨nx a.x ((k % 4 : Nat) : Int), ny a.y ((k % 4 : Nat) : Int)⟩, ⟨nx b.x ((k % 4 : Nat) : Int), ny b.y ((k % 4 : Nat) : Int)⟩] ++ cells.drop (k / 4 + 1)
  | _, _ => []
def longerG (wi hi : Int) (ps : List Pc) (cells barred : List Ce) : List Ce × Bool := match (List.range (4 * (cells.length - 1))).find? (okK wi hi ps cells barred) with
  | some k => (insL cells k, true)
  | none => ([], false)
theorem find_range {p : Nat → Bool} {m k : Nat} (hk : k < m) (h : ∀ j, j < k → p j = false) (e : p k = true) : (List.range m).find? p = some k := by
  rw [List.find?_range_eq_some]
  refine ⟨e, List.mem_range.2 hk, fun j hj => by simp [h j hj]⟩
theorem find_range_none {p : Nat → Bool} {m : Nat} (h : ∀ j, j < m → p j = false) : (List.range m).find? p = none := by
  rw [List.find?_range_eq_none]
  intro j hj
  simp [h j hj]
theorem okK_at {wi hi : Int} {ps : List Pc} {cells barred : List Ce} {i s : Nat} {a b : Ce} (hs : s < 4) (ha : cells[i]? = some a) (hb : cells[i + 1]? = some b) : okK wi hi ps cells barred (4 * i + s) = okL wi hi ps cells barred a b (s : Nat) := by
  unfold okK
  rw [show (4 * i + s) / 4 = i by omega, show (4 * i + s) % 4 = s by omega, ha, hb]
theorem insL_at {cells : List Ce} {i s : Nat} {a b : Ce} (hs : s < 4) (ha : cells[i]? = some a) (hb : cells[i + 1]? = some b) :
    insL cells (4 * i + s) = cells.take (i + 1) ++ [⟨nx a.x (s : Nat), ny a.y (s : Nat)⟩, ⟨nx b.x (s : Nat), ny b.y (s : Nat)⟩] ++ cells.drop (i + 1) := by
  unfold insL
  rw [show (4 * i + s) / 4 = i by omega, show (4 * i + s) % 4 = s by omega, ha, hb]
theorem longer_at {wi hi : Int} {ps : List Pc} {cells barred : List Ce} {i s : Nat} {a b : Ce} (hs : s < 4) (hi1 : i + 1 < cells.length) (ha : cells[i]? = some a) (hb : cells[i + 1]? = some b)
    (h : ∀ j, j < 4 * i + s → okK wi hi ps cells barred j = false) (e : okL wi hi ps cells barred a b (s : Nat) = true) :
    longerG wi hi ps cells barred = (cells.take (i + 1) ++ [⟨nx a.x (s : Nat), ny a.y (s : Nat)⟩, ⟨nx b.x (s : Nat), ny b.y (s : Nat)⟩] ++ cells.drop (i + 1), true) := by
  unfold longerG
  rw [find_range (by omega) h (by rw [okK_at hs ha hb]; exact e)]
  dsimp only
  rw [insL_at hs ha hb]
theorem longer_none {wi hi : Int} {ps : List Pc} {cells barred : List Ce} (h : ∀ j, j < 4 * (cells.length - 1) → okK wi hi ps cells barred j = false) : longerG wi hi ps cells barred = ([], false) := by
  unfold longerG
  rw [find_range_none h]
theorem SlA.drop {α : Type} {enc : α → List Value} {n : Nat} {w : World} {a : Option Addr} {xs : List α} {b o : Nat} (h : SlA enc n w a xs) (e : a = some ⟨b, o, none⟩) (k : Nat) : SlA enc n w (some ⟨b, o + k * n, none⟩) (xs.drop k) := by
  refine ⟨?_, fun hp => ?_⟩
  · have := h.small
    rw [List.length_drop]
    omega
  · rw [List.length_drop] at hp
    obtain ⟨b2, o2, e2, hb, hc⟩ := h.cells (by omega)
    rw [e] at e2
    cases e2
    refine ⟨b, o + k * n, rfl, hb, fun i p hi j u hu => ?_⟩
    rw [List.getElem?_drop] at hi
    have := hc (k + i) p hi j u hu
    rw [Nat.add_mul] at this
    rw [← this]
    congr 2
    omega
theorem nx_in {x s : Int} (h : 0 ≤ x ∧ x ≤ 23) : -1 ≤ nx x s ∧ nx x s ≤ 24 := by unfold nx; split <;> (try split) <;> omega
theorem ny_in {y s : Int} (h : 0 ≤ y ∧ y ≤ 23) : -1 ≤ ny y s ∧ ny y s ≤ 24 := by unfold ny; split <;> (try split) <;> omega
def ResL (E : TypeId) (w : World) (R : List Ce) (f : Bool) (e : Ending) (w' : World) : Prop :=
  ∃ A c, e = .returned (.tuple #[.slice A R.length c, .bool f]) ∧ Below w.heap.size w w' ∧ w'.ownsRow w.heap.size E 2 (.slice A R.length c) R.length (R.flatMap Ce.enc)

set_option maxRecDepth 100000 in
set_option maxHeartbeats 2000000 in
theorem longer_S (b : Nat) (wi hi : Int) (a : Option Addr) (c : Nat) (xs : List Pc) (ac : Option Addr) (cc : Nat) (cells : List Ce) (ak : Option Addr) (ck : Nat) (kept : List Ce) (w : World) (rw_ : -128 ≤ wi ∧ wi ≤ 127 ∧ -128 ≤ hi ∧ hi ≤ 127) (hb : BdA w b wi hi a xs.length c) (h : SlA Pc.enc 5 w a xs)
    (h2 : SlA Ce.enc 2 w ac cells) (hcc : cells.length ≤ cc) (hln : cells.length ≤ 1048576) (okc : ∀ p ∈ cells, (0 ≤ p.x ∧ p.x ≤ 23) ∧ (0 ≤ p.y ∧ p.y ≤ 23)) (h3 : SlA Ce.enc 2 w ak kept) :
    Calls Try.prog 55 #[.pointer (some ⟨b, 0, none⟩), .slice ac cells.length cc, .slice ak kept.length ck] w (ResL 36 w (longerG wi hi xs cells kept).1 (longerG wi hi xs cells kept).2) := by
  have sc := h2.small
  have sk := h3.small
  have hinf : (Try.prog.info? 36).map (fun i => (i.zero, i.size, i.bytes)) = some (some (.agg #[.int .i8 0, .int .i8 0]), 2, 2) := by kernel_rfl
  have Hinf := hid hinf
  clear hinf
  obtain ⟨R, hR⟩ : ∃ R, R = longerG wi hi xs cells kept := ⟨_, rfl⟩
  rw [← hR]
  have HR := hid hR
  clear hR
  go_enter Try.func55, Try.ntmps55
  go_wp2_with fail
  go_loopw [8] (fun i wr => ∃ k : Nat, k ≤ cells.length ∧ i = .int .i64 k ∧ (∀ j, j < 4 * k → okK wi hi xs cells kept j = false) ∧ Below w.heap.size w wr) (fun i _ => cells.length - (intOf i).toNat)
  case atStart => exact ⟨0, Nat.zero_le _, rfl, fun j hj => by omega, Below.refl _ _⟩
  case round =>
    obtain ⟨k, hk, rfl, ht, hbl⟩ := hrel
    have HT := hid ht
    clear ht
    have hwk : IntKind.i64.wrap ((k : Int) + 1) = (k : Int) + 1 := IntWalk.i64_in _ (by omega)
    by_cases hlt : k + 1 < cells.length
    · have hd1 : decide ((k : Int) + 1 < (cells.length : Int)) = true := by rw [decide_eq_true_iff]; omega
      go_wp2_with fail
      go_loopw [9] (fun i wr => ∃ s : Nat, s ≤ 4 ∧ i = .int .i64 s ∧ (∀ j, j < 4 * k + s → okK wi hi xs cells kept j = false) ∧ Below w.heap.size w wr) (fun i _ => 4 - (intOf i).toNat)
      case atStart => exact ⟨0, Nat.zero_le _, rfl, fun j hj => HT.out j (by omega), hbl⟩
      case round =>
        obtain ⟨s, hs, rfl, ht2, hbl2⟩ := hrel
        have HT2 := hid ht2
        clear ht2
        by_cases hs4 : s < 4
        · have hsl := h2.below hbl2
          obtain ⟨b1, o1, ha, hb1, hc1⟩ := hsl.cells (by omega)
          have e1 : cells[k]? = some cells[k] := List.getElem?_eq_getElem (by omega)
          have e2 : cells[k + 1]? = some cells[k + 1] := List.getElem?_eq_getElem hlt
          have okp := okc _ (List.getElem_mem (show k < cells.length by omega))
          have okq := okc _ (List.getElem_mem hlt)
          have Hp := hid e1
          have Hq := hid e2
          clear e1 e2
          generalize cells[k] = p at *
          generalize cells[k + 1] = q at *
          have f0 : wr.cell? ⟨b1, o1 + k * 2, none⟩ = some (.int .i8 p.x) := hc1 k _ Hp.out 0 _ rfl
          have f1 : wr.cell? ⟨b1, o1 + k * 2 + 1, none⟩ = some (.int .i8 p.y) := hc1 k _ Hp.out 1 _ rfl
          have hz := hbl2.size
          have Hn1 := hid (fun W => next_S p.x p.y s W (by omega) (by omega))
          have Hn2 := hid (fun W => next_S q.x q.y s W (by omega) (by omega))
          have rp := And.intro (nx_in (s := s) okp.1) (ny_in (s := s) okp.2)
          have rq := And.intro (nx_in (s := s) okq.1) (ny_in (s := s) okq.2)
          have HO := hid (okK_at (wi := wi) (hi := hi) (ps := xs) (barred := kept) hs4 Hp.out Hq.out)
          have HLg := hid (longer_at (wi := wi) (hi := hi) (ps := xs) (barred := kept) hs4 hlt Hp.out Hq.out HT2.out)
          have HLd := hid (show ∀ u v, okL wi hi xs cells kept p q (s : Nat) = u → nx p.x s = nx p.x s → v = okL wi hi xs cells kept p q (s : Nat) → v = u from fun u v h1 _ h2 => h2.trans h1)
          clear HLd
          unfold okL at HO HLg
          obtain ⟨px, hpx⟩ : ∃ v, nx p.x s = v := ⟨_, rfl⟩
          obtain ⟨py, hpy⟩ : ∃ v, ny p.y s = v := ⟨_, rfl⟩
          obtain ⟨qx, hqx⟩ : ∃ v, nx q.x s = v := ⟨_, rfl⟩
          obtain ⟨qy, hqy⟩ : ∃ v, ny q.y s = v := ⟨_, rfl⟩
          rw [hpx, hpy] at Hn1 rp
          rw [hqx, hqy] at Hn2 rq
          rw [hpx, hpy, hqx, hqy] at HO HLg
          obtain ⟨d1, hd1⟩ : ∃ d : Bool, freeG wi hi xs px py = d := ⟨_, rfl⟩
          obtain ⟨d2, hd2⟩ : ∃ d : Bool, freeG wi hi xs qx qy = d := ⟨_, rfl⟩
          obtain ⟨d3, hd3⟩ : ∃ d : Bool, cells.any (isC px py) = d := ⟨_, rfl⟩
          obtain ⟨d4, hd4⟩ : ∃ d : Bool, cells.any (isC qx qy) = d := ⟨_, rfl⟩
          obtain ⟨d5, hd5⟩ : ∃ d : Bool, kept.any (isC px py) = d := ⟨_, rfl⟩
          obtain ⟨d6, hd6⟩ : ∃ d : Bool, kept.any (isC qx qy) = d := ⟨_, rfl⟩
          have C1 := hid (fun W (hB : Below wr.heap.size wr W) => free_S b wi hi a c xs px py W rw_ (by omega) (hb.below (below_of hbl2 hz hB) hb.lt) (h.below (below_of hbl2 hz hB)))
          have C2 := hid (fun W (hB : Below wr.heap.size wr W) => free_S b wi hi a c xs qx qy W rw_ (by omega) (hb.below (below_of hbl2 hz hB) hb.lt) (h.below (below_of hbl2 hz hB)))
          have C3 := hid (fun W (hB : Below wr.heap.size wr W) => hasC_S ac cc cells px py W (h2.below (below_of hbl2 hz hB)))
          have C4 := hid (fun W (hB : Below wr.heap.size wr W) => hasC_S ac cc cells qx qy W (h2.below (below_of hbl2 hz hB)))
          have C5 := hid (fun W (hB : Below wr.heap.size wr W) => hasC_S ak ck kept px py W (h3.below (below_of hbl2 hz hB)))
          have C6 := hid (fun W (hB : Below wr.heap.size wr W) => hasC_S ak ck kept qx qy W (h3.below (below_of hbl2 hz hB)))
          rw [hd1] at C1 HO HLg
          rw [hd2] at C2 HO HLg
          rw [hd3, ha] at C3
          rw [hd3] at HO HLg
          rw [hd4, ha] at C4
          rw [hd4] at HO HLg
          rw [hd5] at C5 HO HLg
          rw [hd6] at C6 HO HLg
          have HC1 := hid hc1
          subst ha
          clear hd1 hd2 hd3 hd4 hd5 hd6 hc1 hsl okp okq hpx hpy hqx hqy
          go_wp2_with fail
          refine (Hn1.out _).mono ?_
          rintro e w1 ⟨rfl, hb9⟩
          obtain ⟨W1, hW1⟩ : ∃ W, W = w1.alloc (Obj.cells #[.int .i8 px, .int .i8 py] 36) := ⟨_, rfl⟩
          have B1 : Below wr.heap.size wr W1 := by rw [hW1]; exact hb9.alloc hb9.size _
          have hz1 := hb9.size
          have g1 : wr.heap.size < W1.heap.size := by rw [hW1]; simp; omega
          have m0 : W1.cell? ⟨w1.heap.size, 0, none⟩ = some (.int .i8 px) := by rw [hW1]; simp
          have m1 : W1.cell? ⟨w1.heap.size, 1, none⟩ = some (.int .i8 py) := by rw [hW1]; simp
          have g2 : w1.heap.size < W1.heap.size := by rw [hW1]; simp
          have k0 : ∀ o, (w1.alloc o).cell? ⟨b1, o1 + (k + 1) * 2, none⟩ = some (.int .i8 q.x) := fun o => cell_on (hb9.alloc hz1 o) (HC1.out (k + 1) _ Hq.out 0 _ rfl)
          have k1 : ∀ o, (w1.alloc o).cell? ⟨b1, o1 + (k + 1) * 2 + 1, none⟩ = some (.int .i8 q.y) := fun o => cell_on (hb9.alloc hz1 o) (HC1.out (k + 1) _ Hq.out 1 _ rfl)
          have ht1 : ((k : Int) + 1).toNat = k + 1 := by omega
          have hi1 : (k : Int) + 1 < (cells.length : Int) := by omega
          have hi0 : (0 : Int) ≤ (k : Int) + 1 := by omega
          go_wp2_with fail
          rw [← hW1]
          clear hW1
          refine (Hn2.out _).mono ?_
          rintro e w2 ⟨rfl, hb8⟩
          obtain ⟨W2, hW2⟩ : ∃ W, W = w2.alloc (Obj.cells #[.int .i8 qx, .int .i8 qy] 36) := ⟨_, rfl⟩
          have B2' : Below W1.heap.size W1 W2 := by rw [hW2]; exact hb8.alloc hb8.size _
          have hz2 := hb8.size
          have B2 := below_of B1 (by omega) B2'
          have g3 : W1.heap.size < W2.heap.size := by rw [hW2]; simp; omega
          have n0 : W2.cell? ⟨w2.heap.size, 0, none⟩ = some (.int .i8 qx) := by rw [hW2]; simp
          have n1 : W2.cell? ⟨w2.heap.size, 1, none⟩ = some (.int .i8 qy) := by rw [hW2]; simp
          have g4 : w2.heap.size < W2.heap.size := by rw [hW2]; simp
          have l0 : ∀ o, (w2.alloc o).cell? ⟨w1.heap.size, 0, none⟩ = some (.int .i8 px) := fun o => cell_on (hb8.alloc hz2 o) m0
          have l1 : ∀ o, (w2.alloc o).cell? ⟨w1.heap.size, 1, none⟩ = some (.int .i8 py) := fun o => cell_on (hb8.alloc hz2 o) m1
          have m0 := cell_on B2' m0
          have m1 := cell_on B2' m1
          clear k0 k1
          go_wp2_with fail
          rw [← hW2]
          clear hW2 l0 l1
          have hcs : d1 = false ∨ (d1 = true ∧ d2 = false) ∨ (d1 = true ∧ d2 = true ∧ d3 = true) ∨ (d1 = true ∧ d2 = true ∧ d3 = false ∧ d4 = true) ∨ (d1 = true ∧ d2 = true ∧ d3 = false ∧ d4 = false ∧ d5 = true) ∨ (d1 = true ∧ d2 = true ∧ d3 = false ∧ d4 = false ∧ d5 = false ∧ d6 = true) ∨ (d1 = true ∧ d2 = true ∧ d3 = false ∧ d4 = false ∧ d5 = false ∧ d6 = false) := by
            cases d1 <;> cases d2 <;> cases d3 <;> cases d4 <;> cases d5 <;> cases d6 <;> simp
          rcases hcs with rfl | ⟨rfl, rfl⟩ | ⟨rfl, rfl, rfl⟩ | ⟨rfl, rfl, rfl, rfl⟩ | ⟨rfl, rfl, rfl, rfl, rfl⟩ | ⟨rfl, rfl, rfl, rfl, rfl, rfl⟩ | ⟨rfl, rfl, rfl, rfl, rfl, rfl⟩
          · have T0 : Below W2.heap.size W2 W2 := Below.refl _ _
            refine (C1.out _ (below_of B2 (by omega) T0)).mono ?_
            rintro e v1 ⟨rfl, t1⟩
            have T1 := below_then T0 t1
            have m0_1 := cell_on T1 m0
            have m1_1 := cell_on T1 m1
            have n0_1 := cell_on T1 n0
            have n1_1 := cell_on T1 n1
            have z1 := T1.size
            go_wp2_with fail
            exact ⟨⟨s + 1, by omega, by go_num, not_step HT2.out HO.out, below_of hbl2 hz (below_of B2 (by omega) T1)⟩, by simp [intOf]; omega⟩
          · have T0 : Below W2.heap.size W2 W2 := Below.refl _ _
            refine (C1.out _ (below_of B2 (by omega) T0)).mono ?_
            rintro e v1 ⟨rfl, t1⟩
            have T1 := below_then T0 t1
            have m0_1 := cell_on T1 m0
            have m1_1 := cell_on T1 m1
            have n0_1 := cell_on T1 n0
            have n1_1 := cell_on T1 n1
            have z1 := T1.size
            go_wp2_with fail
            refine (C2.out _ (below_of B2 (by omega) T1)).mono ?_
            rintro e v2 ⟨rfl, t2⟩
            have T2 := below_then T1 t2
            have m0_2 := cell_on T2 m0
            have m1_2 := cell_on T2 m1
            have n0_2 := cell_on T2 n0
            have n1_2 := cell_on T2 n1
            have z2 := T2.size
            go_wp2_with fail
            exact ⟨⟨s + 1, by omega, by go_num, not_step HT2.out HO.out, below_of hbl2 hz (below_of B2 (by omega) T2)⟩, by simp [intOf]; omega⟩
          · have T0 : Below W2.heap.size W2 W2 := Below.refl _ _
            refine (C1.out _ (below_of B2 (by omega) T0)).mono ?_
            rintro e v1 ⟨rfl, t1⟩
            have T1 := below_then T0 t1
            have m0_1 := cell_on T1 m0
            have m1_1 := cell_on T1 m1
            have n0_1 := cell_on T1 n0
            have n1_1 := cell_on T1 n1
            have z1 := T1.size
            go_wp2_with fail
            refine (C2.out _ (below_of B2 (by omega) T1)).mono ?_
            rintro e v2 ⟨rfl, t2⟩
            have T2 := below_then T1 t2
            have m0_2 := cell_on T2 m0
            have m1_2 := cell_on T2 m1
            have n0_2 := cell_on T2 n0
            have n1_2 := cell_on T2 n1
            have z2 := T2.size
            go_wp2_with fail
            refine (C3.out _ (below_of B2 (by omega) T2)).mono ?_
            rintro e v3 ⟨rfl, t3⟩
            have T3 := below_then T2 t3
            have m0_3 := cell_on T3 m0
            have m1_3 := cell_on T3 m1
            have n0_3 := cell_on T3 n0
            have n1_3 := cell_on T3 n1
            have z3 := T3.size
            go_wp2_with fail
            exact ⟨⟨s + 1, by omega, by go_num, not_step HT2.out HO.out, below_of hbl2 hz (below_of B2 (by omega) T3)⟩, by simp [intOf]; omega⟩
          · have T0 : Below W2.heap.size W2 W2 := Below.refl _ _
            refine (C1.out _ (below_of B2 (by omega) T0)).mono ?_
            rintro e v1 ⟨rfl, t1⟩
            have T1 := below_then T0 t1
            have m0_1 := cell_on T1 m0
            have m1_1 := cell_on T1 m1
            have n0_1 := cell_on T1 n0
            have n1_1 := cell_on T1 n1
            have z1 := T1.size
            go_wp2_with fail
            refine (C2.out _ (below_of B2 (by omega) T1)).mono ?_
            rintro e v2 ⟨rfl, t2⟩
            have T2 := below_then T1 t2
            have m0_2 := cell_on T2 m0
            have m1_2 := cell_on T2 m1
            have n0_2 := cell_on T2 n0
            have n1_2 := cell_on T2 n1
            have z2 := T2.size
            go_wp2_with fail
            refine (C3.out _ (below_of B2 (by omega) T2)).mono ?_
            rintro e v3 ⟨rfl, t3⟩
            have T3 := below_then T2 t3
            have m0_3 := cell_on T3 m0
            have m1_3 := cell_on T3 m1
            have n0_3 := cell_on T3 n0
            have n1_3 := cell_on T3 n1
            have z3 := T3.size
            go_wp2_with fail
            refine (C4.out _ (below_of B2 (by omega) T3)).mono ?_
            rintro e v4 ⟨rfl, t4⟩
            have T4 := below_then T3 t4
            have m0_4 := cell_on T4 m0
            have m1_4 := cell_on T4 m1
            have n0_4 := cell_on T4 n0
            have n1_4 := cell_on T4 n1
            have z4 := T4.size
            go_wp2_with fail
            exact ⟨⟨s + 1, by omega, by go_num, not_step HT2.out HO.out, below_of hbl2 hz (below_of B2 (by omega) T4)⟩, by simp [intOf]; omega⟩
          · have T0 : Below W2.heap.size W2 W2 := Below.refl _ _
            refine (C1.out _ (below_of B2 (by omega) T0)).mono ?_
            rintro e v1 ⟨rfl, t1⟩
            have T1 := below_then T0 t1
            have m0_1 := cell_on T1 m0
            have m1_1 := cell_on T1 m1
            have n0_1 := cell_on T1 n0
            have n1_1 := cell_on T1 n1
            have z1 := T1.size
            go_wp2_with fail
            refine (C2.out _ (below_of B2 (by omega) T1)).mono ?_
            rintro e v2 ⟨rfl, t2⟩
            have T2 := below_then T1 t2
            have m0_2 := cell_on T2 m0
            have m1_2 := cell_on T2 m1
            have n0_2 := cell_on T2 n0
            have n1_2 := cell_on T2 n1
            have z2 := T2.size
            go_wp2_with fail
            refine (C3.out _ (below_of B2 (by omega) T2)).mono ?_
            rintro e v3 ⟨rfl, t3⟩
            have T3 := below_then T2 t3
            have m0_3 := cell_on T3 m0
            have m1_3 := cell_on T3 m1
            have n0_3 := cell_on T3 n0
            have n1_3 := cell_on T3 n1
            have z3 := T3.size
            go_wp2_with fail
            refine (C4.out _ (below_of B2 (by omega) T3)).mono ?_
            rintro e v4 ⟨rfl, t4⟩
            have T4 := below_then T3 t4
            have m0_4 := cell_on T4 m0
            have m1_4 := cell_on T4 m1
            have n0_4 := cell_on T4 n0
            have n1_4 := cell_on T4 n1
            have z4 := T4.size
            go_wp2_with fail
            refine (C5.out _ (below_of B2 (by omega) T4)).mono ?_
            rintro e v5 ⟨rfl, t5⟩
            have T5 := below_then T4 t5
            have m0_5 := cell_on T5 m0
            have m1_5 := cell_on T5 m1
            have n0_5 := cell_on T5 n0
            have n1_5 := cell_on T5 n1
            have z5 := T5.size
            go_wp2_with fail
            exact ⟨⟨s + 1, by omega, by go_num, not_step HT2.out HO.out, below_of hbl2 hz (below_of B2 (by omega) T5)⟩, by simp [intOf]; omega⟩
          · have T0 : Below W2.heap.size W2 W2 := Below.refl _ _
            refine (C1.out _ (below_of B2 (by omega) T0)).mono ?_
            rintro e v1 ⟨rfl, t1⟩
            have T1 := below_then T0 t1
            have m0_1 := cell_on T1 m0
            have m1_1 := cell_on T1 m1
            have n0_1 := cell_on T1 n0
            have n1_1 := cell_on T1 n1
            have z1 := T1.size
            go_wp2_with fail
            refine (C2.out _ (below_of B2 (by omega) T1)).mono ?_
            rintro e v2 ⟨rfl, t2⟩
            have T2 := below_then T1 t2
            have m0_2 := cell_on T2 m0
            have m1_2 := cell_on T2 m1
            have n0_2 := cell_on T2 n0
            have n1_2 := cell_on T2 n1
            have z2 := T2.size
            go_wp2_with fail
            refine (C3.out _ (below_of B2 (by omega) T2)).mono ?_
            rintro e v3 ⟨rfl, t3⟩
            have T3 := below_then T2 t3
            have m0_3 := cell_on T3 m0
            have m1_3 := cell_on T3 m1
            have n0_3 := cell_on T3 n0
            have n1_3 := cell_on T3 n1
            have z3 := T3.size
            go_wp2_with fail
            refine (C4.out _ (below_of B2 (by omega) T3)).mono ?_
            rintro e v4 ⟨rfl, t4⟩
            have T4 := below_then T3 t4
            have m0_4 := cell_on T4 m0
            have m1_4 := cell_on T4 m1
            have n0_4 := cell_on T4 n0
            have n1_4 := cell_on T4 n1
            have z4 := T4.size
            go_wp2_with fail
            refine (C5.out _ (below_of B2 (by omega) T4)).mono ?_
            rintro e v5 ⟨rfl, t5⟩
            have T5 := below_then T4 t5
            have m0_5 := cell_on T5 m0
            have m1_5 := cell_on T5 m1
            have n0_5 := cell_on T5 n0
            have n1_5 := cell_on T5 n1
            have z5 := T5.size
            go_wp2_with fail
            refine (C6.out _ (below_of B2 (by omega) T5)).mono ?_
            rintro e v6 ⟨rfl, t6⟩
            have T6 := below_then T5 t6
            have m0_6 := cell_on T6 m0
            have m1_6 := cell_on T6 m1
            have n0_6 := cell_on T6 n0
            have n1_6 := cell_on T6 n1
            have z6 := T6.size
            go_wp2_with fail
            exact ⟨⟨s + 1, by omega, by go_num, not_step HT2.out HO.out, below_of hbl2 hz (below_of B2 (by omega) T6)⟩, by simp [intOf]; omega⟩
          · have T0 : Below W2.heap.size W2 W2 := Below.refl _ _
            refine (C1.out _ (below_of B2 (by omega) T0)).mono ?_
            rintro e v1 ⟨rfl, t1⟩
            have T1 := below_then T0 t1
            have m0_1 := cell_on T1 m0
            have m1_1 := cell_on T1 m1
            have n0_1 := cell_on T1 n0
            have n1_1 := cell_on T1 n1
            have z1 := T1.size
            go_wp2_with fail
            refine (C2.out _ (below_of B2 (by omega) T1)).mono ?_
            rintro e v2 ⟨rfl, t2⟩
            have T2 := below_then T1 t2
            have m0_2 := cell_on T2 m0
            have m1_2 := cell_on T2 m1
            have n0_2 := cell_on T2 n0
            have n1_2 := cell_on T2 n1
            have z2 := T2.size
            go_wp2_with fail
            refine (C3.out _ (below_of B2 (by omega) T2)).mono ?_
            rintro e v3 ⟨rfl, t3⟩
            have T3 := below_then T2 t3
            have m0_3 := cell_on T3 m0
            have m1_3 := cell_on T3 m1
            have n0_3 := cell_on T3 n0
            have n1_3 := cell_on T3 n1
            have z3 := T3.size
            go_wp2_with fail
            refine (C4.out _ (below_of B2 (by omega) T3)).mono ?_
            rintro e v4 ⟨rfl, t4⟩
            have T4 := below_then T3 t4
            have m0_4 := cell_on T4 m0
            have m1_4 := cell_on T4 m1
            have n0_4 := cell_on T4 n0
            have n1_4 := cell_on T4 n1
            have z4 := T4.size
            go_wp2_with fail
            refine (C5.out _ (below_of B2 (by omega) T4)).mono ?_
            rintro e v5 ⟨rfl, t5⟩
            have T5 := below_then T4 t5
            have m0_5 := cell_on T5 m0
            have m1_5 := cell_on T5 m1
            have n0_5 := cell_on T5 n0
            have n1_5 := cell_on T5 n1
            have z5 := T5.size
            go_wp2_with fail
            refine (C6.out _ (below_of B2 (by omega) T5)).mono ?_
            rintro e v6 ⟨rfl, t6⟩
            have T6 := below_then T5 t6
            have m0_6 := cell_on T6 m0
            have m1_6 := cell_on T6 m1
            have n0_6 := cell_on T6 n0
            have n1_6 := cell_on T6 n1
            have z6 := T6.size
            have EB := below_of hbl2 hz (below_of B2 (by omega) T6)
            have HE := hid EB
            have hze := EB.size
            have K0 := h2.below EB
            have hlk : (cells.take (k + 1)).length = k + 1 := by rw [List.length_take]; omega
            have FL := hid (fun o => (show SlA Ce.enc 2 (v6.alloc o) (some ⟨b1, o1, none⟩) (cells.take (k + 1)) from (K0.take (k + 1)).below ((Below.refl _ _).alloc (Nat.le_refl _) o)).flat (n := 2) Ce.enc_length)
            have F1 := hid (flatMap_len (en := Ce.enc) (n := 2) (fun _ => rfl) (cells.take (k + 1)))
            rw [hlk] at F1 FL
            have F2 := hid (oneCell_flat (en := Ce.enc) (fun p u hu => by simp [Ce.enc] at hu; rcases hu with rfl | rfl <;> rfl) (cells.take (k + 1)))
            have F3 := hid (oneCell_flat (en := Ce.enc) (fun p u hu => by simp [Ce.enc] at hu; rcases hu with rfl | rfl <;> rfl) (cells.drop (k + 1)))
            have hkc : (k : Int) + 1 ≤ (cc : Int) := by omega
            go_wp2_with (at_builtin; refine app_many rfl _ _ 67 rfl w.heap.size 36 (.agg #[.int .i8 0, .int .i8 0]) 2 2 Try.underlying67 Hinf.out rfl (by decide) _ 0 [] rfl (World.ownsRow_lit v6 #[] 0 hze (by simp [maxLen]) (by simp)) (some ⟨b1, o1, none⟩) (k + 1) cc ((cells.take (k + 1)).flatMap Ce.enc) rfl F1.out (FL.out _) F2.out (fun _ => .inr (by simp)) (by omega) (by decide) (by simp; omega) ?_)
            intro x1 wA own1 hg1 hat1
            try simp only [Nat.zero_add, List.nil_append] at own1
            obtain ⟨A1, c1, rfl⟩ := own_slice own1
            have BA : Below v6.heap.size v6 wA := ((Below.refl v6.heap.size v6).alloc (Nat.le_refl _) _).grown hg1 (by simp) (by simp [Value.ownBlock])
            have EA := below_of EB hze BA
            have hzA := EA.size
            have a0 := cell_on BA m0_6
            have a1 := cell_on BA m1_6
            have a2 := cell_on BA n0_6
            have a3 := cell_on BA n1_6
            have HO1 := hid own1
            clear own1 hg1 hat1
            go_wp2_with (at_builtin; refine app_many rfl _ _ 67 rfl w.heap.size 36 (.agg #[.int .i8 0, .int .i8 0]) 2 2 Try.underlying67 Hinf.out rfl (by decide) _ (k + 1) ((cells.take (k + 1)).flatMap Ce.enc) rfl (own_step HO1.out ((Below.refl _ _).alloc (Nat.le_refl _) _)) (some ⟨wA.heap.size, 0, none⟩) 2 2 [.int .i8 px, .int .i8 py, .int .i8 qx, .int .i8 qy] rfl rfl (fun _ => ⟨wA.heap.size, 0, rfl, fun j u hu => by have hj : j < 4 := (List.getElem?_eq_some_iff.1 hu).1; simp [go_sem, hu]⟩) (by intro u hu; simp at hu; rcases hu with rfl | rfl | rfl | rfl <;> rfl) (fun h => by omega) (by omega) (by decide) (by simp; omega) ?_)
            intro x2 wB own2 hg2 hat2
            obtain ⟨A2, c2, rfl⟩ := own_slice own2
            have EB2 : Below w.heap.size w wB := below_own EA HO1.out hzA ((World.grownBy_alloc _ _ _).trans hg2)
            have hzB := EB2.size
            have HO2 := hid own2
            clear own2 hg2 hat2
            have D1 : 0 < (cells.drop (k + 1)).length → _ := ((h2.below EB2).drop rfl (k + 1)).flat Ce.enc_length
            rw [List.length_drop] at D1
            have D2 : ((cells.drop (k + 1)).flatMap Ce.enc).length = (cells.length - (k + 1)) * 2 := by rw [flatMap_len (en := Ce.enc) (n := 2) (fun _ => rfl), List.length_drop]
            have D1' := hid D1
            have D2' := hid D2
            clear D1 D2
            go_wp2_with (at_builtin; refine app_many rfl _ _ 67 rfl w.heap.size 36 (.agg #[.int .i8 0, .int .i8 0]) 2 2 Try.underlying67 Hinf.out rfl (by decide) _ (k + 1 + 2) _ rfl HO2.out (some ⟨b1, o1 + (k + 1) * 2, none⟩) (cells.length - (k + 1)) (cc - (k + 1)) ((cells.drop (k + 1)).flatMap Ce.enc) rfl D2'.out D1'.out F3.out (fun _ => .inr (by simp)) (by omega) (by decide) hzB ?_)
            intro x3 wC own3 hg3 hat3
            obtain ⟨A3, c3, rfl⟩ := own_slice own3
            have EB3 := hid (below_own EB2 HO2.out hzB hg3)
            have HO3 := hid own3
            have HL9 := hid (HR.out.trans (HLg.out rfl))
            clear own3 hg3 hat3
            go_wp2_with fail
            have hlen : k + 1 + 2 + (cells.length - (k + 1)) = (cells.take (k + 1) ++ [(⟨px, py⟩ : Ce), ⟨qx, qy⟩] ++ cells.drop (k + 1)).length := by
              simp only [List.length_append, List.length_take, List.length_drop, List.length_cons, List.length_nil]
              omega
            refine bodyPost_ret (v := .tuple #[.slice A3 (k + 1 + 2 + (cells.length - (k + 1))) c3, .bool true]) (by simp [results, Try.results55, go_sem]) rfl ?_
            rw [HL9.out]
            refine ⟨A3, c3, by rw [hlen], EB3.out, ?_⟩
            have own := HO3.out
            rw [hlen] at own
            have e9 : (cells.take (k + 1) ++ [(⟨px, py⟩ : Ce), ⟨qx, qy⟩] ++ cells.drop (k + 1)).flatMap Ce.enc = (cells.take (k + 1)).flatMap Ce.enc ++ .int .i8 px :: .int .i8 py :: .int .i8 qx :: .int .i8 qy :: (cells.drop (k + 1)).flatMap Ce.enc := by
              rw [List.flatMap_append, List.flatMap_append, List.append_assoc]
              rfl
            rw [← e9] at own
            exact own
        · obtain rfl : s = 4 := by omega
          go_wp2_with fail
          exact ⟨⟨k + 1, by omega, by go_num, fun j hj => HT2.out j (by omega), hbl2⟩, by simp [intOf]; omega⟩
    · have hd1 : decide ((k : Int) + 1 < (cells.length : Int)) = false := by rw [decide_eq_false_iff_not]; omega
      have HB := hid (HR.out.trans (longer_none (fun j hj => HT.out j (by omega))))
      go_wp2_with fail
      refine bodyPost_ret (v := .tuple #[.slice (some ⟨wr.heap.size, 0, none⟩) 0 0, .bool false]) (by simp [results, Try.results55, go_sem]) rfl ?_
      rw [HB.out]
      exact ⟨some ⟨wr.heap.size, 0, none⟩, 0, rfl, hbl.alloc hbl.size _, World.ownsRow_lit wr #[] 0 hbl.size (by simp [maxLen]) (by simp)⟩
end Go.Proofs.Ytgkgklgeobbmlaa
