/-
  CarriesPush, the reference's; what it comes to.
  Conditions: the fields are in their kinds' ranges.
-/
import Derived.Test.YtdpheplbbenanaaCostI
import Derived.Test.YtdpheplbbenanaaRunS3
import Derived.Test.YtdpheplbbenanaaAccS
import Derived.Test.YtdpheplbbenanaaAt
namespace Go.Proofs.Ytdpheplbbenanaa
open Go.RowKit
set_option linter.unusedSimpArgs false
set_option linter.unusedVariables false

/-- Whether the fall of one piece makes another one hit on a side, and when. -/
def carryG (xs : List Pc) (f t sd ou : Nat) : Int × Int :=
  if Fal (boOf xs) (one1 f sd) t < big ∧ (boOf xs).hit t (Fal (boOf xs) (one1 f sd) t % 4) ou = true then (((Fal (boOf xs) (one1 f sd) t / 4 + (boOf xs).d t : Nat) : Int), 0) else (0, 6)
def wayOk (xs : List Pc) (p : Wy) : Bool := decide (0 ≤ idxOf (atC p.fx p.fy) xs) && decide (0 ≤ idxOf (atC p.tx p.ty) xs) && inB p.sd 0 3 && inB p.ou 0 3
def CarriesPushG (wi hi : Int) (xs : List Pc) (p : Wy) : Int × Int :=
  if bdOk wi hi xs = true then (if wayOk xs p = true then carryG xs (idxOf (atC p.fx p.fy) xs).toNat (idxOf (atC p.tx p.ty) xs).toNat p.sd.toNat p.ou.toNat else (0, 2)) else (0, 1)
theorem idxOf_lt {α : Type} {p : α → Bool} {xs : List α} (h : 0 ≤ idxOf p xs) : ∃ k : Nat, idxOf p xs = k ∧ k < xs.length := by
  have : xs.any p = true := by rw [← idxOf_ge, decide_eq_true_iff]; exact h
  obtain ⟨k, x, h1, h2, _⟩ := idxOf_some this
  exact ⟨k, h1, (List.getElem?_eq_some_iff.1 h2).1⟩
theorem fal_le {B : Bo} (ok : B.Ok) {p sd : Nat} (hs : sd < 4) (y : Nat) : Fal B (one1 p sd) y ≤ big := (fall_tk ok (one1_le hs)).fix_le y
theorem fal_can {B : Bo} (ok : B.Ok) {p sd : Nat} (hs : sd < 4) {y : Nat} (h : Fal B (one1 p sd) y < big) : B.can y (Fal B (one1 p sd) y % 4) = true := fall_can hs ((fall_tk ok (one1_le hs)).fix y) h
theorem wy_box (w : World) (p : Wy) (e : TypeId) : ∀ W, Below (w.alloc (.cells p.enc.toArray e)).heap.size (w.alloc (.cells p.enc.toArray e)) W → W.cell? ⟨w.heap.size, 0, none⟩ = some (.int .i8 p.fx) ∧ W.cell? ⟨w.heap.size, 1, none⟩ = some (.int .i8 p.fy) ∧ W.cell? ⟨w.heap.size, 2, none⟩ = some (.int .i8 p.sd) ∧ W.cell? ⟨w.heap.size, 3, none⟩ = some (.int .i8 p.tx) ∧ W.cell? ⟨w.heap.size, 4, none⟩ = some (.int .i8 p.ty) ∧ W.cell? ⟨w.heap.size, 5, none⟩ = some (.int .i8 p.ou) := fun W hb =>
  ⟨cell_on hb (by simp [go_sem, Wy.enc]), cell_on hb (by simp [go_sem, Wy.enc]), cell_on hb (by simp [go_sem, Wy.enc]), cell_on hb (by simp [go_sem, Wy.enc]), cell_on hb (by simp [go_sem, Wy.enc]), cell_on hb (by simp [go_sem, Wy.enc])⟩
set_option maxRecDepth 100000 in
set_option maxHeartbeats 4000000 in
theorem CarriesPush_S (w : World) (wi hi : Int) (wl : -128 ≤ wi) (wu : wi ≤ 127) (hl : -128 ≤ hi) (hu : hi ≤ 127) (a : Option Addr) (c : Nat) (xs : List Pc) (h : SlA Pc.enc 5 w a xs) (_ : a = none → c = 0) (ok : ∀ p ∈ xs, p.Ok) (_ : xs.length ≤ 1048576) (p : Wy) (okp : p.Ok) :
    Calls Try.prog 5 #[.agg #[.int .i8 wi, .int .i8 hi, .slice a xs.length c], .agg p.enc.toArray] w fun e w' => e = .returned (.tuple #[.int .i64 (CarriesPushG wi hi xs p).1, .int .i64 (CarriesPushG wi hi xs p).2]) ∧ Below w.heap.size w w' := by
  obtain ⟨fx, fy, sd, tx, ty, ou⟩ := p
  obtain ⟨fx0, fx1, fy0, fy1, sd0, sd1, tx0, tx1, ty0, ty1, ou0, ou1⟩ := okp
  dsimp only at fx0 fx1 fy0 fy1 sd0 sd1 tx0 tx1 ty0 ty1 ou0 ou1
  simp only [Wy.enc]
  obtain ⟨W0, hW0⟩ : ∃ W, W = (w.alloc (.cells #[.int .i8 wi, .int .i8 hi, .slice a xs.length c] 34)).alloc (.cells #[.int .i8 fx, .int .i8 fy, .int .i8 sd, .int .i8 tx, .int .i8 ty, .int .i8 ou] 38) := ⟨_, rfl⟩
  have B00 := (Below.refl w.heap.size w).alloc (Nat.le_refl _) (.cells #[.int .i8 wi, .int .i8 hi, .slice a xs.length c] 34)
  have B0 : Below w.heap.size w W0 := by rw [hW0]; exact B00.alloc (by simp) _
  have hbd : BdA W0 w.heap.size wi hi a xs.length c := by
    rw [hW0]
    have b1 : BdA (w.alloc (.cells #[.int .i8 wi, .int .i8 hi, .slice a xs.length c] 34)) w.heap.size wi hi a xs.length c := ⟨by simp, by simp [go_sem], by simp [go_sem], by simp [go_sem]⟩
    exact b1.below ((Below.refl _ _).alloc (Nat.le_refl _) _) b1.lt
  have hwy : ∀ W, Below W0.heap.size W0 W → W.cell? ⟨w.heap.size + 1, 0, none⟩ = some (.int .i8 fx) ∧ W.cell? ⟨w.heap.size + 1, 1, none⟩ = some (.int .i8 fy) ∧ W.cell? ⟨w.heap.size + 1, 2, none⟩ = some (.int .i8 sd) ∧ W.cell? ⟨w.heap.size + 1, 3, none⟩ = some (.int .i8 tx) ∧ W.cell? ⟨w.heap.size + 1, 4, none⟩ = some (.int .i8 ty) ∧ W.cell? ⟨w.heap.size + 1, 5, none⟩ = some (.int .i8 ou) := by
    intro W hb
    refine ⟨cell_on hb ?_, cell_on hb ?_, cell_on hb ?_, cell_on hb ?_, cell_on hb ?_, cell_on hb ?_⟩ <;> (rw [hW0]; simp [go_sem])
  have HWY := hid hwy
  have HB0 := hid B0
  have HBD := hid (fun W (hb : Below W0.heap.size W0 W) => (⟨hbd.below hb hbd.lt, (h.below B0).below hb⟩ : BdA W w.heap.size wi hi a xs.length c ∧ SlA Pc.enc 5 W a xs))
  have hw1 : IntKind.i64.wrap sd = sd := IntWalk.i64_in _ (by omega)
  have hw2 : IntKind.i64.wrap ou = ou := IntWalk.i64_in _ (by omega)
  have HOk := hid (ok_S w.heap.size wi hi a c xs W0 ⟨wl, wu, hl, hu⟩ hbd (h.below B0) ok)
  have HFi := hid (fun W (hb : Below W0.heap.size W0 W) x y => find_S w.heap.size wi hi a c xs x y W (HBD.out W hb).1 (HBD.out W hb).2)
  have HSi := hid (fun n W => side_S n W)
  cases hbk : bdOk wi hi xs with
  | false =>
    have G := hid (show CarriesPushG wi hi xs ⟨fx, fy, sd, tx, ty, ou⟩ = (0, 1) by unfold CarriesPushG; rw [hbk]; rfl)
    rw [hbk] at HOk
    clear hbd h B0 B00 hbk hwy
    go_enter Try.func5, Try.ntmps5
    go_wp2_with fail
    rw [← hW0]
    clear hW0
    refine HOk.out.mono ?_
    rintro e w1 ⟨rfl, hb1⟩
    have B1 := hid hb1
    obtain ⟨y0, y1, y2, y3, y4, y5⟩ := HWY.out w1 hb1
    clear hb1
    go_wp2_with fail
    refine bodyPost_ret (v := .tuple #[.int .i64 0, .int .i64 1]) (by simp [results, Try.results5, go_sem]) rfl ?_
    exact ⟨by rw [G.out], below_of HB0.out HB0.out.size B1.out⟩
  | true =>
    rw [hbk] at HOk
    have hB := brd_of hbk
    have hn : xs.length ≤ 200 := hB.n
    clear B00 hwy
    cases hw : wayOk xs ⟨fx, fy, sd, tx, ty, ou⟩ with
    | false =>
      have G := hid (show CarriesPushG wi hi xs ⟨fx, fy, sd, tx, ty, ou⟩ = (0, 2) by unfold CarriesPushG; rw [if_pos hbk, hw]; rfl)
      clear hbd h B0 hbk hB
      by_cases hF : idxOf (atC fx fy) xs < 0
      · have e1 : decide (idxOf (atC fx fy) xs < 0) = true := decide_eq_true hF
        go_enter Try.func5, Try.ntmps5
        go_wp2_with fail
        rw [← hW0]
        clear hW0
        refine HOk.out.mono ?_
        rintro e w1 ⟨rfl, hb1⟩
        have B1 := hid hb1
        obtain ⟨y0, y1, y2, y3, y4, y5⟩ := HWY.out w1 hb1
        clear hb1
        go_wp2_with fail
        refine (HFi.out w1 B1.out fx fy).mono ?_
        rintro e w2 ⟨rfl, hb2⟩
        have B2 := hid (below_of B1.out B1.out.size hb2)
        obtain ⟨x0, x1, x2, x3, x4, x5⟩ := HWY.out w2 B2.out
        clear hb2 y0 y1 y2 y3 y4 y5
        go_wp2_with fail
        refine (HFi.out w2 B2.out tx ty).mono ?_
        rintro e w3 ⟨rfl, hb3⟩
        have B3 := hid (below_of B2.out B2.out.size hb3)
        obtain ⟨y0, y1, y2, y3, y4, y5⟩ := HWY.out w3 B3.out
        clear hb3 x0 x1 x2 x3 x4 x5
        go_wp2_with (go_at_call 13; refine (HSi.out _ _).mono ?_; rintro e w9 ⟨rfl, rfl⟩)
        refine bodyPost_ret (v := .tuple #[.int .i64 0, .int .i64 2]) (by simp [results, Try.results5, go_sem]) rfl ?_
        exact ⟨by rw [G.out], below_of HB0.out HB0.out.size B3.out⟩
      · have e1 : decide (idxOf (atC fx fy) xs < 0) = false := decide_eq_false hF
        by_cases hT : idxOf (atC tx ty) xs < 0
        · have e2 : decide (idxOf (atC tx ty) xs < 0) = true := decide_eq_true hT
          go_enter Try.func5, Try.ntmps5
          go_wp2_with fail
          rw [← hW0]
          clear hW0
          refine HOk.out.mono ?_
          rintro e w1 ⟨rfl, hb1⟩
          have B1 := hid hb1
          obtain ⟨y0, y1, y2, y3, y4, y5⟩ := HWY.out w1 hb1
          clear hb1
          go_wp2_with fail
          refine (HFi.out w1 B1.out fx fy).mono ?_
          rintro e w2 ⟨rfl, hb2⟩
          have B2 := hid (below_of B1.out B1.out.size hb2)
          obtain ⟨x0, x1, x2, x3, x4, x5⟩ := HWY.out w2 B2.out
          clear hb2 y0 y1 y2 y3 y4 y5
          go_wp2_with fail
          refine (HFi.out w2 B2.out tx ty).mono ?_
          rintro e w3 ⟨rfl, hb3⟩
          have B3 := hid (below_of B2.out B2.out.size hb3)
          obtain ⟨y0, y1, y2, y3, y4, y5⟩ := HWY.out w3 B3.out
          clear hb3 x0 x1 x2 x3 x4 x5
          go_wp2_with (go_at_call 13; refine (HSi.out _ _).mono ?_; rintro e w9 ⟨rfl, rfl⟩)
          refine bodyPost_ret (v := .tuple #[.int .i64 0, .int .i64 2]) (by simp [results, Try.results5, go_sem]) rfl ?_
          exact ⟨by rw [G.out], below_of HB0.out HB0.out.size B3.out⟩
        · have e2 : decide (idxOf (atC tx ty) xs < 0) = false := decide_eq_false hT
          cases hs1 : inB sd 0 3 with
          | false =>
            go_enter Try.func5, Try.ntmps5
            go_wp2_with fail
            rw [← hW0]
            clear hW0
            refine HOk.out.mono ?_
            rintro e w1 ⟨rfl, hb1⟩
            have B1 := hid hb1
            obtain ⟨y0, y1, y2, y3, y4, y5⟩ := HWY.out w1 hb1
            clear hb1
            go_wp2_with fail
            refine (HFi.out w1 B1.out fx fy).mono ?_
            rintro e w2 ⟨rfl, hb2⟩
            have B2 := hid (below_of B1.out B1.out.size hb2)
            obtain ⟨x0, x1, x2, x3, x4, x5⟩ := HWY.out w2 B2.out
            clear hb2 y0 y1 y2 y3 y4 y5
            go_wp2_with fail
            refine (HFi.out w2 B2.out tx ty).mono ?_
            rintro e w3 ⟨rfl, hb3⟩
            have B3 := hid (below_of B2.out B2.out.size hb3)
            obtain ⟨y0, y1, y2, y3, y4, y5⟩ := HWY.out w3 B3.out
            clear hb3 x0 x1 x2 x3 x4 x5
            go_wp2_with (go_at_call 13; refine (HSi.out _ _).mono ?_; rintro e w9 ⟨rfl, rfl⟩)
            refine bodyPost_ret (v := .tuple #[.int .i64 0, .int .i64 2]) (by simp [results, Try.results5, go_sem]) rfl ?_
            exact ⟨by rw [G.out], below_of HB0.out HB0.out.size B3.out⟩
          | true =>
            cases hs2 : inB ou 0 3 with
            | false =>
              go_enter Try.func5, Try.ntmps5
              go_wp2_with fail
              rw [← hW0]
              clear hW0
              refine HOk.out.mono ?_
              rintro e w1 ⟨rfl, hb1⟩
              have B1 := hid hb1
              obtain ⟨y0, y1, y2, y3, y4, y5⟩ := HWY.out w1 hb1
              clear hb1
              go_wp2_with fail
              refine (HFi.out w1 B1.out fx fy).mono ?_
              rintro e w2 ⟨rfl, hb2⟩
              have B2 := hid (below_of B1.out B1.out.size hb2)
              obtain ⟨x0, x1, x2, x3, x4, x5⟩ := HWY.out w2 B2.out
              clear hb2 y0 y1 y2 y3 y4 y5
              go_wp2_with fail
              refine (HFi.out w2 B2.out tx ty).mono ?_
              rintro e w3 ⟨rfl, hb3⟩
              have B3 := hid (below_of B2.out B2.out.size hb3)
              obtain ⟨y0, y1, y2, y3, y4, y5⟩ := HWY.out w3 B3.out
              clear hb3 x0 x1 x2 x3 x4 x5
              go_wp2_with (go_at_call 13; refine (HSi.out _ _).mono ?_; rintro e w9 ⟨rfl, rfl⟩)
              refine bodyPost_ret (v := .tuple #[.int .i64 0, .int .i64 2]) (by simp [results, Try.results5, go_sem]) rfl ?_
              exact ⟨by rw [G.out], below_of HB0.out HB0.out.size B3.out⟩
            | true =>
              exfalso
              unfold wayOk at hw
              rw [hs1, hs2, decide_eq_true (show 0 ≤ idxOf (atC fx fy) xs by omega), decide_eq_true (show 0 ≤ idxOf (atC tx ty) xs by omega)] at hw
              cases hw
    | true =>
      have hwk := hw
      unfold wayOk at hw
      simp only [Bool.and_eq_true, decide_eq_true_eq] at hw
      obtain ⟨⟨⟨hF0, hT0⟩, hs1⟩, hs2⟩ := hw
      obtain ⟨f, hf, hfl⟩ := idxOf_lt hF0
      obtain ⟨t, ht, htl⟩ := idxOf_lt hT0
      have hsd := inB_iff.1 hs1
      have hou := inB_iff.1 hs2
      obtain ⟨s, rfl⟩ : ∃ s : Nat, sd = s := ⟨sd.toNat, by omega⟩
      obtain ⟨o, rfl⟩ : ∃ o : Nat, ou = o := ⟨ou.toNat, by omega⟩
      have hs4 : s < 4 := by omega
      have ho4 : o < 4 := by omega
      have G0 : CarriesPushG wi hi xs ⟨fx, fy, s, tx, ty, o⟩ = carryG xs f t s o := by
        unfold CarriesPushG
        rw [if_pos hbk, hwk, if_pos rfl]
        dsimp only
        rw [hf, ht, Int.toNat_natCast, Int.toNat_natCast, Int.toNat_natCast, Int.toNat_natCast]
      have e1 : decide ((f : Int) < 0) = false := by rw [decide_eq_false_iff_not]; omega
      have e2 : decide ((t : Int) < 0) = false := by rw [decide_eq_false_iff_not]; omega
      have hti : (t : Int) < (xs.length : Int) := by omega
      obtain ⟨b1, o1, rfl, hb1', hc1⟩ := h.cells (by omega)
      have ep : xs[t]? = some xs[t] := List.getElem?_eq_getElem htl
      have okt := hB.pc xs[t] (List.getElem_mem htl)
      have HX4 := hid (fun W (hb : Below W0.heap.size W0 W) => (show W.cell? ⟨b1, o1 + t * 5 + 2, none⟩ = some (.int .i8 xs[t].k) ∧ W.cell? ⟨b1, o1 + t * 5 + 3, none⟩ = some (.int .i8 xs[t].t) ∧ W.cell? ⟨b1, o1 + t * 5 + 4, none⟩ = some (.int .i8 xs[t].d) from ⟨cell_on hb (cell_on B0 (hc1 t _ ep 2 _ rfl)), cell_on hb (cell_on B0 (hc1 t _ ep 3 _ rfl)), cell_on hb (cell_on B0 (hc1 t _ ep 4 _ rfl))⟩))
      have Hd := hid (bo_d ep)
      have Hhit := hid (fun r => bo_hit ep r o)
      have Hcan := hid (fun r => bo_can ep r)
      have hfc := fal_can (bo_ok hB) (p := f) (y := t) hs4
      have hfl2 := fal_le (bo_ok hB) (p := f) hs4 t
      have hb2 : big = 1099511627776 := rfl
      obtain ⟨q, hq⟩ : ∃ q, xs[t] = q := ⟨_, rfl⟩
      rw [hq] at okt HX4 Hd Hhit Hcan
      have HCG := hid (show carryG xs f t s o = if Fal (boOf xs) (one1 f s) t < big ∧ (boOf xs).hit t (Fal (boOf xs) (one1 f s) t % 4) o = true then (((Fal (boOf xs) (one1 f s) t / 4 + (boOf xs).d t : Nat) : Int), 0) else (0, 6) from rfl)
      have HFf := hid (fun W hb => HFi.out W hb fx fy)
      have HFt := hid (fun W hb => HFi.out W hb tx ty)
      have HFr := hid (fun W (hb : Below W0.heap.size W0 W) => from_S w.heap.size wi hi (some ⟨b1, o1, none⟩) c xs f s W hB (by omega) (HBD.out W hb).1 (HBD.out W hb).2 hfl hs4)
      obtain ⟨v, hv⟩ : ∃ v, Fal (boOf xs) (one1 f s) t = v := ⟨_, rfl⟩
      rw [hv] at hfc hfl2 HCG
      have HV := hid hv
      clear hv ep hq hF0 hT0 hbd h B0 hc1
      rw [hf] at HFf
      rw [ht] at HFt
      have e3 : inB (s : Int) 0 3 = true := hs1
      have e4 : inB (o : Int) 0 3 = true := hs2
      clear hf ht
      by_cases hvb : v < big
      · have hqv : decide (((v / 4 : Nat) : Int) < 0) = false := by rw [decide_eq_false_iff_not]; omega
        have hcv := hfc hvb
        rw [Hcan.out, decide_eq_true_iff] at hcv
        have hr4 : v % 4 < 4 := Nat.mod_lt _ (by omega)
        have HT4 := hid (keyT_lt hvb)
        have HS4 := hid (keyS_lt hvb)
        have hqb : v / 4 < big := by omega
        have Hh9 := hid (Hhit.out (v % 4))
        have hlt16 := hitsG_lt (k := q.k) (t := q.t) (s := ((v % 4 : Nat) : Int)) okt.2.2.2.1
        have hw9 : IntKind.i64.wrap ((v % 4 : Nat) : Int) = ((v % 4 : Nat) : Int) := IntWalk.i64_in _ (by omega)
        obtain ⟨d, hd⟩ : ∃ d : Nat, q.d = d := ⟨q.d.toNat, by omega⟩
        have hd9 : 1 ≤ d ∧ d ≤ 9 := by omega
        rw [hd] at HX4 Hd
        rw [Int.toNat_natCast] at Hd
        have HIT := hid (fun W (hb : Below W0.heap.size W0 W) => hits_S b1 (o1 + t * 5) q.k q.t ((v % 4 : Nat) : Int) W okt.2.2.1 okt.2.2.2.1 (by omega) (World.block_lt_of_cell? W ⟨b1, o1 + t * 5 + 2, none⟩ (HX4.out W hb).1) (HX4.out W hb).1 (HX4.out W hb).2.1)
        have hwd : IntKind.i64.wrap (d : Int) = (d : Int) := IntWalk.i64_in _ (by omega)
        have hwt : IntKind.i64.wrap (((v / 4 : Nat) : Int) + (d : Int)) = ((v / 4 : Nat) : Int) + (d : Int) := IntWalk.i64_in _ (by omega)
        rw [decide_eq_true hcv, Bool.true_and] at Hh9
        have HBT := hid (bit_tmod hcv o)
        generalize hitsG q.k q.t ((v % 4 : Nat) : Int) = bits at *
        generalize v % 4 = r at *
        generalize v / 4 = u at *
        rw [Hh9.out, Hd.out] at HCG
        generalize bitI bits o = bt at *
        cases bt with
        | false =>
          have hbt : ((bits / 2 ^ o).tmod 2 == 0) = true := by rw [HBT.out]; rfl
          have G := hid (show CarriesPushG wi hi xs ⟨fx, fy, s, tx, ty, o⟩ = (0, 6) by rw [G0, HCG.out, if_neg (by simp)])
          clear G0 HCG hcv hfc hb2 hvb
          go_enter Try.func5, Try.ntmps5
          go_wp2_with fail
          rw [← hW0]
          clear hW0
          refine HOk.out.mono ?_
          rintro e w1 ⟨rfl, hb1⟩
          have B1 := hid hb1
          obtain ⟨y0, y1, y2, y3, y4, y5⟩ := HWY.out w1 hb1
          clear hb1
          go_wp2_with fail
          refine (HFf.out w1 B1.out).mono ?_
          rintro e w2 ⟨rfl, hb2⟩
          have B2 := hid (below_of B1.out B1.out.size hb2)
          obtain ⟨x0, x1, x2, x3, x4, x5⟩ := HWY.out w2 B2.out
          clear hb2 y0 y1 y2 y3 y4 y5
          go_wp2_with fail
          refine (HFt.out w2 B2.out).mono ?_
          rintro e w3 ⟨rfl, hb3⟩
          have B3 := hid (below_of B2.out B2.out.size hb3)
          obtain ⟨y0, y1, y2, y3, y4, y5⟩ := HWY.out w3 B3.out
          clear hb3 x0 x1 x2 x3 x4 x5
          go_wp2_with (go_at_call 13; refine (HSi.out _ _).mono ?_; rintro e w9 ⟨rfl, rfl⟩)
          refine (HFr.out w3 B3.out).mono ?_
          rintro e w4 ⟨g, rfl, hb4, hg4, hf4⟩
          have B4 := hid (below_of B3.out B3.out.size hb4)
          have c2 := (HBD.out w4 B4.out).1.c2
          have f0 := hf4.c0 t htl
          have f1 := hf4.c1 t htl
          rw [HV.out, HT4.out] at f0
          rw [HV.out, HS4.out] at f1
          obtain ⟨y0, y1, y2, y3, y4, y5⟩ := HWY.out w4 B4.out
          clear hb4 hf4
          go_wp2_with fail
          refine (HIT.out w4 B4.out).mono ?_
          rintro e w5 ⟨rfl, hb5⟩
          have B5 := hid (below_of B4.out B4.out.size hb5)
          obtain ⟨z0, z1, z2, z3, z4, z5⟩ := HWY.out w5 B5.out
          clear hb5
          go_wp2_with fail
          refine bodyPost_ret (v := .tuple #[.int .i64 0, .int .i64 6]) (by simp [results, Try.results5, go_sem]) rfl ?_
          exact ⟨by rw [G.out], below_of HB0.out HB0.out.size B5.out⟩
        | true =>
          have hbt : ((bits / 2 ^ o).tmod 2 == 0) = false := by rw [HBT.out]; rfl
          have G := hid (show CarriesPushG wi hi xs ⟨fx, fy, s, tx, ty, o⟩ = (((u + d : Nat) : Int), 0) by rw [G0, HCG.out, if_pos ⟨hvb, rfl⟩])
          have hcast : ((u + d : Nat) : Int) = (u : Int) + (d : Int) := by omega
          rw [hcast] at G
          clear G0 HCG hcv hfc hb2 hvb hcast
          go_enter Try.func5, Try.ntmps5
          go_wp2_with fail
          rw [← hW0]
          clear hW0
          refine HOk.out.mono ?_
          rintro e w1 ⟨rfl, hb1⟩
          have B1 := hid hb1
          obtain ⟨y0, y1, y2, y3, y4, y5⟩ := HWY.out w1 hb1
          clear hb1
          go_wp2_with fail
          refine (HFf.out w1 B1.out).mono ?_
          rintro e w2 ⟨rfl, hb2⟩
          have B2 := hid (below_of B1.out B1.out.size hb2)
          obtain ⟨x0, x1, x2, x3, x4, x5⟩ := HWY.out w2 B2.out
          clear hb2 y0 y1 y2 y3 y4 y5
          go_wp2_with fail
          refine (HFt.out w2 B2.out).mono ?_
          rintro e w3 ⟨rfl, hb3⟩
          have B3 := hid (below_of B2.out B2.out.size hb3)
          obtain ⟨y0, y1, y2, y3, y4, y5⟩ := HWY.out w3 B3.out
          clear hb3 x0 x1 x2 x3 x4 x5
          go_wp2_with (go_at_call 13; refine (HSi.out _ _).mono ?_; rintro e w9 ⟨rfl, rfl⟩)
          refine (HFr.out w3 B3.out).mono ?_
          rintro e w4 ⟨g, rfl, hb4, hg4, hf4⟩
          have B4 := hid (below_of B3.out B3.out.size hb4)
          have c2 := (HBD.out w4 B4.out).1.c2
          have f0 := hf4.c0 t htl
          have f1 := hf4.c1 t htl
          rw [HV.out, HT4.out] at f0
          rw [HV.out, HS4.out] at f1
          obtain ⟨y0, y1, y2, y3, y4, y5⟩ := HWY.out w4 B4.out
          have Hf0 := hid f0
          clear hb4 hf4
          go_wp2_with fail
          refine (HIT.out w4 B4.out).mono ?_
          rintro e w5 ⟨rfl, hb5⟩
          have B5 := hid (below_of B4.out B4.out.size hb5)
          obtain ⟨z0, z1, z2, z3, z4, z5⟩ := HWY.out w5 B5.out
          have f5 := cell_on hb5 f0
          obtain ⟨k2, k3, k4⟩ := HX4.out w5 B5.out
          clear hb5
          go_wp2_with fail
          go_quiet (fail)
          go_wp2_with fail
          refine bodyPost_ret (v := .tuple #[.int .i64 ((u : Int) + (d : Int)), .int .i64 0]) (by simp [results, Try.results5, go_sem]) rfl ?_
          exact ⟨by rw [G.out], below_of HB0.out HB0.out.size (below_drewN B5.out _)⟩
      · have hve : v = big := by omega
        have G := hid (show CarriesPushG wi hi xs ⟨fx, fy, s, tx, ty, o⟩ = (0, 6) by rw [G0, HCG.out, if_neg (fun h => hvb h.1)])
        clear G0 HCG hfc hb2
        go_enter Try.func5, Try.ntmps5
        go_wp2_with fail
        rw [← hW0]
        clear hW0
        refine HOk.out.mono ?_
        rintro e w1 ⟨rfl, hb1⟩
        have B1 := hid hb1
        obtain ⟨y0, y1, y2, y3, y4, y5⟩ := HWY.out w1 hb1
        clear hb1
        go_wp2_with fail
        refine (HFf.out w1 B1.out).mono ?_
        rintro e w2 ⟨rfl, hb2⟩
        have B2 := hid (below_of B1.out B1.out.size hb2)
        obtain ⟨x0, x1, x2, x3, x4, x5⟩ := HWY.out w2 B2.out
        clear hb2 y0 y1 y2 y3 y4 y5
        go_wp2_with fail
        refine (HFt.out w2 B2.out).mono ?_
        rintro e w3 ⟨rfl, hb3⟩
        have B3 := hid (below_of B2.out B2.out.size hb3)
        obtain ⟨y0, y1, y2, y3, y4, y5⟩ := HWY.out w3 B3.out
        clear hb3 x0 x1 x2 x3 x4 x5
        go_wp2_with (go_at_call 13; refine (HSi.out _ _).mono ?_; rintro e w9 ⟨rfl, rfl⟩)
        refine (HFr.out w3 B3.out).mono ?_
        rintro e w4 ⟨g, rfl, hb4, hg4, hf4⟩
        have B4 := hid (below_of B3.out B3.out.size hb4)
        have c2 := (HBD.out w4 B4.out).1.c2
        have f0 := hf4.c0 t htl
        rw [HV.out, hve, keyT_big] at f0
        clear hb4 hf4 hve
        go_wp2_with fail
        refine bodyPost_ret (v := .tuple #[.int .i64 0, .int .i64 6]) (by simp [results, Try.results5, go_sem]) rfl ?_
        exact ⟨by rw [G.out], below_of HB0.out HB0.out.size B4.out⟩
end Go.Proofs.Ytdpheplbbenanaa
