/-
  Words of our own for walks: facts kept aside, regions that draw their order (class 'Later'), slices that are read, and arguments opened to scalars.
  Conditions: none; general lemmas.
-/
import Derived.WalkKit
import Derived.WalkSpells
import Derived.WalkLawsBesides
import Derived.KernelRfl
import Derived.Below
import Derived.IntWalk
import Derived.Deep.QuietTactic
import Derived.BigQuiet
import Derived.Deep.Slices
import Derived.OpenShut
import Derived.ChangeOld
import Derived.ProofKit
import Derived.Deep.OwnRows
import Derived.Deep.AppendLies
import Derived.Maps.AppendAt
import Derived.OwnWalk
namespace Go.Proofs.Ytgkgklgeobbmlaa
open Go.RowKit Go.ChangeShapes Go.WideShapes

theorem hid {p : Prop} (h : p) : Hid p := h
theorem ret_bool {a b : Bool} (h : a = b) : Ending.returned (.bool a) = .returned (.bool b) := by rw [h]
theorem ret_int {k : IntKind} {a b : Int} (h : a = b) : Ending.returned (.int k a) = .returned (.int k b) := by rw [h]
theorem bcell {W w1 : World} (hb : Below W.heap.size W w1) : (∀ b o, b < W.heap.size → w1.cell? ⟨b, o, none⟩ = W.cell? ⟨b, o, none⟩) ∧ (∀ b o, b < W.heap.size → w1.frozen? ⟨b, o, none⟩ = W.frozen? ⟨b, o, none⟩) :=
  ⟨fun b o h => hb.cell (p := ⟨b, o, none⟩) h, fun b o h => hb.frozen (p := ⟨b, o, none⟩) h⟩
theorem below_then {w w1 w2 : World} (h : Below w.heap.size w w1) (k : Below w1.heap.size w1 w2) : Below w.heap.size w w2 := h.trans (k.mono h.size)
theorem below_of {w w1 w2 : World} {B : Nat} (h : Below B w w1) (hB : B ≤ w1.heap.size) (k : Below w1.heap.size w1 w2) : Below B w w2 := h.trans (k.mono hB)

/-! ### A region that draws its order, whose operations read what stays and whose callees make new memory alone -/
structure Later (w0 : World) where
  w : World
  below : Below w0.heap.size w0 w
instance (w : World) : Nonempty (Later w) := ⟨⟨w, Below.refl _ _⟩⟩
theorem wp_region_later {P : Program} {id : Nat} {Q : Exit → Act → World → Prop} {a : Act} {w : World} {l : List Oper} (hm : P.follows .mixedOrders = true) (hB : Region.lexB .any l.toArray = true)
    (h : wpQuiet P l.toArray (fun w' => ∃ x : Later w, x.w = w') (fun a' => ∀ x : Later w, Q .normal a' x.w) l a) : (Code.region id l.toArray true).wp P Q a w :=
  wp_region_quiet (C := fun w' => ∃ x : Later w, x.w = w') hm hB ⟨⟨{ w with drawn := w.drawn + 1 }, Below.drew (Below.refl _ _)⟩, rfl⟩ (by
    have : (fun a' => ∀ x : Later w, Q .normal a' x.w) = (fun a' => ∀ w', (∃ x : Later w, x.w = w') → Q .normal a' w') := by
      funext a'; simp
    rw [this] at h; simpa using h)
theorem later_cell {W : World} (x : Later W) (b o : Nat) (h : b < W.heap.size) : x.w.cell? ⟨b, o, none⟩ = W.cell? ⟨b, o, none⟩ := x.below.cell (p := ⟨b, o, none⟩) h
theorem later_frozen {W : World} (x : Later W) (b o : Nat) (h : b < W.heap.size) : x.w.frozen? ⟨b, o, none⟩ = W.frozen? ⟨b, o, none⟩ := x.below.frozen (p := ⟨b, o, none⟩) h
theorem quiet_later {P : Program} {f : FuncId} {args : Array Value} {w : World} {x : Later w} {v : Value} (h : Calls P f args x.w fun e w' => e = .returned v ∧ Below x.w.heap.size x.w w') :
    Calls P f args x.w fun e w'' => e = .returned v ∧ ∃ y : Later w, y.w = w'' :=
  h.mono fun _ w' ⟨he, hb⟩ => ⟨he, ⟨w', x.below.trans (hb.mono x.below.size)⟩, rfl⟩
theorem quiet_same {P : Program} {f : FuncId} {args : Array Value} {w : World} {x : Later w} {v : Value} (h : Calls P f args x.w fun e w' => e = .returned v ∧ x.w = w') :
    Calls P f args x.w fun e w'' => e = .returned v ∧ ∃ y : Later w, y.w = w'' :=
  h.mono fun _ _ ⟨he, hb⟩ => ⟨he, x, hb⟩

/-! ### Slices that are read: element i lies in cells o + (i * n + j) -/
structure SlA {α : Type} (enc : α → List Value) (n : Nat) (w : World) (a : Option Addr) (xs : List α) : Prop where
  small : xs.length ≤ 9223372036854775807
  cells : 0 < xs.length → ∃ b o, a = some ⟨b, o, none⟩ ∧ b < w.heap.size ∧ ∀ i p, xs[i]? = some p → ∀ j u, (enc p)[j]? = some u → w.cell? ⟨b, o + (i * n + j), none⟩ = some u
theorem SlA.below {α : Type} {enc : α → List Value} {n : Nat} {w w1 : World} {a : Option Addr} {xs : List α} (h : SlA enc n w a xs) (hb : Below w.heap.size w w1) : SlA enc n w1 a xs :=
  ⟨h.small, fun hp => by
    obtain ⟨b, o, e, hlt, hc⟩ := h.cells hp
    exact ⟨b, o, e, Nat.lt_of_lt_of_le hlt hb.size, fun i p hi j u hu => (hb.cell (p := ⟨b, _, none⟩) hlt).trans (hc i p hi j u hu)⟩⟩
theorem SlA.kept {α : Type} {enc : α → List Value} {n : Nat} {w w1 : World} {a : Option Addr} {xs : List α} {row : Option Nat} (h : SlA enc n w a xs) (hg : w.grownBy w1 row) (hne : ∀ b o, a = some ⟨b, o, none⟩ → some b ≠ row) : SlA enc n w1 a xs :=
  ⟨h.small, fun hp => by
    obtain ⟨b, o, e, hlt, hc⟩ := h.cells hp
    exact ⟨b, o, e, Nat.lt_of_lt_of_le hlt hg.size, fun i p hi j u hu => (hg.cell_far ⟨b, _, none⟩ hlt (hne b o e)).trans (hc i p hi j u hu)⟩⟩
theorem SlA.of_own {α : Type} {enc : α → List Value} {n : Nat} {w : World} {base : Nat} {e : TypeId} {a : Option Addr} {cap : Nat} {xs : List α} (hn : ∀ p, (enc p).length = n) (h : w.ownsRow base e n (.slice a xs.length cap) xs.length (xs.flatMap enc)) : SlA enc n w a xs := by
  have small : xs.length ≤ 9223372036854775807 := by
    rcases h.2 with ⟨_, h0⟩ | ⟨g, cap', cur, _, _, _, h1, h2, _⟩
    · omega
    · simp only [maxLen] at h2; omega
  refine ⟨small, fun hp => ?_⟩
  have h' := h
  obtain ⟨g, cap', hv, hg, hlt⟩ := h.form hp
  injection hv with hv1 hv2 hv3
  subst hv1
  refine ⟨g, 0, rfl, hlt, fun i p hi j u hu => ?_⟩
  have hil : i < xs.length := (List.getElem?_eq_some_iff.1 hi).1
  have hjl : j < n := by rw [← hn p]; exact (List.getElem?_eq_some_iff.1 hu).1
  have key : ∀ (l : List α) (i : Nat), l[i]? = some p → (l.flatMap enc)[i * n + j]? = some u := by
    intro l
    induction l with
    | nil => intro i hi; simp at hi
    | cons x l ih =>
      intro i hi
      cases i with
      | zero =>
        simp at hi; subst hi
        rw [List.flatMap_cons, List.getElem?_append_left (by rw [hn]; omega)]
        simpa using hu
      | succ i =>
        rw [List.flatMap_cons, List.getElem?_append_right (by rw [hn, Nat.succ_mul]; omega), hn, Nat.succ_mul]
        have : i * n + n + j - n = i * n + j := by omega
        rw [this]
        exact ih i (by simpa using hi)
  have hc := h'.cells (g := g) rfl (i * n + j) u (key xs i hi)
  have e : ((⟨g, 0, none⟩ : Addr).add (i * n + j)) = ⟨g, 0 + (i * n + j), none⟩ := by unfold Addr.add; split <;> simp_all
  rw [e] at hc
  exact hc

/-! ### Arguments opened to scalars -/
inductive Sc where
  | int (k : IntKind)
  | bool
def Sc.ok : Sc → Value → Prop
  | .int k, v => ∃ n, v = .int k n ∧ (Lit.int k n).wf = true
  | .bool, v => ∃ b, v = .bool b
def OkL (ks : List Sc) (cs : List Value) : Prop := ∀ (j : Nat) (k : Sc), ks[j]? = some k → ∃ v, cs[j]? = some v ∧ k.ok v
def scFields (P : Program) (f : TypeId → Option (List Sc)) : List Field → List Sc → Option (List Sc)
  | [], acc => some acc
  | x :: xs, acc => if x.offset = acc.length then match f x.type with
    | some ks => if ks.length = P.cellsOf x.type then scFields P f xs (acc ++ ks) else none
    | none => none else none
def scRep (ks : List Sc) : Nat → List Sc
  | 0 => []
  | m + 1 => scRep ks m ++ ks
def scT (P : Program) : Nat → TypeId → Option (List Sc)
  | 0, _ => none
  | n + 1, t => match P.underlying t with
    | some .bool => some [.bool]
    | some (.int k) => some [.int k]
    | some (.struct fs) => scFields P (scT P n) fs.toList []
    | some (.array m e) => match scT P n e with
      | some ks => if ks.length = P.cellsOf e then some (scRep ks m) else none
      | none => none
    | _ => none
theorem okL_snoc {ks ls : List Sc} {cs : List Value} {n : Nat} (h : OkL ks cs) (h' : OkL ls ((cs.drop ks.length).take n)) : OkL (ks ++ ls) cs := by
  intro j k hj
  rcases Nat.lt_or_ge j ks.length with hl | hl
  · rw [List.getElem?_append_left hl] at hj
    exact h j k hj
  · rw [List.getElem?_append_right hl] at hj
    obtain ⟨v, hv, ok⟩ := h' _ k hj
    have hv' := List.getElem?_eq_some_iff.1 hv
    obtain ⟨hlt, he⟩ := hv'
    rw [List.getElem?_take, List.getElem?_drop] at hv
    split at hv
    · rw [Nat.add_sub_cancel' hl] at hv
      exact ⟨v, hv, ok⟩
    · cases hv
theorem scRep_length (ks : List Sc) : ∀ m, (scRep ks m).length = m * ks.length
  | 0 => by simp [scRep]
  | m + 1 => by simp [scRep, scRep_length ks m, Nat.succ_mul]
section
variable {H : Type} {enc : TypeId × Value → H} {P : Program} {w : World} {base : Nat} {spare : Nat → Bool} {held : Bool}
theorem scFields_ok {f : TypeId → Option (List Sc)} {cs : List Value} (l : List Field) : ∀ (acc r : List Sc),
    (∀ x ∈ l, ∀ ks, f x.type = some ks → OkL ks ((cs.drop x.offset).take (P.cellsOf x.type))) → OkL acc cs → scFields P f l acc = some r → OkL r cs := by
  induction l with
  | nil => intro acc r _ ha h; simp [scFields] at h; subst h; exact ha
  | cons x l ih =>
    intro acc r hx ha h
    unfold scFields at h
    split at h
    · rename_i ho
      split at h
      · rename_i ks hk
        split at h
        · refine ih _ _ (fun y hy => hx y (List.mem_cons_of_mem _ hy)) ?_ h
          refine okL_snoc (n := P.cellsOf x.type) ha ?_
          rw [← ho]
          exact hx x List.mem_cons_self ks hk
        · cases h
      · cases h
    · cases h
theorem trod_sc : ∀ (n : Nat) (t : TypeId) (ks : List Sc), scT P n t = some ks → ∀ (fuel : Nat) (cs : List Value) (x : DataW H × List MemPlace), DataW.trod enc P w base spare held fuel t cs = some x → OkL ks cs := by
  intro n
  induction n with
  | zero => intro t ks h; simp [scT] at h
  | succ n ih =>
    intro t ks h fuel cs x hx
    unfold scT at h
    split at h
    · rename_i hu
      simp at h; subst h
      obtain ⟨b, rfl, _⟩ := DataW.trod_bool hu hx
      intro j k hj
      cases j with
      | zero => simp at hj; subst hj; exact ⟨_, rfl, b, rfl⟩
      | succ j => simp at hj
    · rename_i k hu
      simp at h; subst h
      obtain ⟨z, rfl, _, wf⟩ := DataW.trod_int hu hx
      intro j k' hj
      cases j with
      | zero => simp at hj; subst hj; exact ⟨_, rfl, z, rfl, wf⟩
      | succ j => simp at hj
    · rename_i fs hu
      obtain ⟨xs, m, _, _, _, _, hf⟩ := DataW.trod_struct hu hx
      refine scFields_ok (P := P) fs.toList [] ks (fun f hmem ks' hk => ?_) (fun j k hj => by simp at hj) h
      obtain ⟨i, hi, he⟩ := List.mem_iff_getElem.1 hmem
      have hg : fs[i]? = some f := by
        rw [← Array.getElem?_toList, List.getElem?_eq_getElem hi, he]
      have hlt : i < fs.size := by simpa using hi
      have := hf i f hg
      cases hxs : xs[i]? with
      | none => exact absurd (List.getElem?_eq_none_iff.1 hxs) (by omega)
      | some y => rw [hxs] at this; exact ih _ _ hk _ _ _ this
    · rename_i m e hu
      split at h
      · rename_i ks' hk
        split at h
        · rename_i hl
          simp at h; subst h
          obtain ⟨xs, m', _, _, _, hxl, hf⟩ := DataW.trod_array hu hx
          have key : ∀ q, q ≤ m → OkL (scRep ks' q) cs := by
            intro q
            induction q with
            | zero => intro _ j k hj; simp [scRep] at hj
            | succ q ihq =>
              intro hq
              unfold scRep
              refine okL_snoc (n := P.cellsOf e) (ihq (by omega)) ?_
              rw [scRep_length, hl]
              have := hf q (by omega)
              cases hxs : xs[q]? with
              | none => exact absurd (List.getElem?_eq_none_iff.1 hxs) (by omega)
              | some y => rw [hxs] at this; exact ih _ _ hk _ _ _ this
          exact key m (Nat.le_refl _)
        · cases h
      · cases h
    · cases h

/-- An argument that is a slice of scalars, structs or arrays of these. -/
theorem open_sc_slice {t e : TypeId} {n : Nat} {ks : List Sc} {a : Option Addr} {len cap : Nat} {d : DataW H} {p : List MemPlace} (ht : P.underlying t = some (.slice e)) (hs : scT P n e = some ks) (hk : P.cellsOf e = ks.length) (h0 : 0 < ks.length)
    (h : DataW.Trod enc P w base spare held t (.slice a len cap) d p) :
    len ≤ 9223372036854775807 ∧ (0 < len → ∃ b o, a = some ⟨b, o, none⟩ ∧ b < w.heap.size ∧ ∀ i, i < len → ∃ cs : List Value, cs.length = ks.length ∧ OkL ks cs ∧ ∀ j u, cs[j]? = some u → w.cell? ⟨b, o + (i * ks.length + j), none⟩ = some u) := by
  obtain ⟨fuel, hf⟩ := h
  rcases Deep.open_slice ht hf with ⟨hcs, _⟩ | ⟨a', l, c, m, q, D, Pl, hcs, _, hl, hm, hmm, _, hx⟩
  · simp [Value.cells] at hcs
    obtain ⟨rfl, rfl, rfl⟩ := hcs
    exact ⟨by omega, fun h => absurd h (by omega)⟩
  · simp [Value.cells] at hcs
    obtain ⟨rfl, rfl, rfl⟩ := hcs
    have hlm : len ≤ m := by rw [hmm]; split <;> omega
    refine ⟨by simp only [maxLen] at hm; omega, fun hp => ?_⟩
    have one : ∀ i, i < len → ∃ cs : List Value, cs.length = ks.length ∧ OkL ks cs ∧ ∀ j u, cs[j]? = some u → w.cell? (a'.add (i * ks.length + j)) = some u := by
      intro i hi
      obtain ⟨cs, hc, htr⟩ := hx i (by omega)
      obtain ⟨_, hcl, hat⟩ := World.cells?_some hc
      refine ⟨cs, by rw [hcl, hk], trod_sc _ _ _ hs _ _ _ htr, fun j u hu => ?_⟩
      have hj : j < P.cellsOf e := by rw [← hcl]; exact (List.getElem?_eq_some_iff.1 hu).1
      have := hat j hj
      rw [hu, hk, Deep.add_add] at this
      exact this
    obtain ⟨cs0, hl0, _, hc0⟩ := one 0 hp
    have hu0 : cs0[0]? = some (cs0[0]'(by omega)) := List.getElem?_eq_getElem (by omega)
    have hc00 := hc0 0 _ hu0
    obtain ⟨b, o, sp⟩ := a'
    have hsp : sp = none := by simpa [Addr.add] using World.cell?_spot hc00
    subst hsp
    have hadd : ∀ q, (⟨b, o, none⟩ : Addr).add q = ⟨b, o + q, none⟩ := fun q => by unfold Addr.add; split <;> simp_all
    refine ⟨b, o, rfl, ?_, fun i hi => ?_⟩
    · rw [hadd] at hc00
      exact World.block_lt_of_cell? w _ hc00
    · obtain ⟨cs, h1, h2, h3⟩ := one i hi
      exact ⟨cs, h1, h2, fun j u hu => by rw [← hadd]; exact h3 j u hu⟩
end
/-- .. and as a list of Lean's own. -/
theorem sla_of {α : Type} (en : α → List Value) (ok : α → Prop) {ks : List Sc} {w : World} {a : Option Addr} {len : Nat} (hof : ∀ cs, cs.length = ks.length → OkL ks cs → ∃ p : α, cs = en p ∧ ok p) (hlen : len ≤ 9223372036854775807)
    (h : 0 < len → ∃ b o, a = some ⟨b, o, none⟩ ∧ b < w.heap.size ∧ ∀ i, i < len → ∃ cs : List Value, cs.length = ks.length ∧ OkL ks cs ∧ ∀ j u, cs[j]? = some u → w.cell? ⟨b, o + (i * ks.length + j), none⟩ = some u) :
    ∃ xs : List α, xs.length = len ∧ (∀ p ∈ xs, ok p) ∧ SlA en ks.length w a xs := by
  rcases Nat.eq_zero_or_pos len with h0 | h0
  · subst h0
    exact ⟨[], rfl, by simp, ⟨by simp, fun h => by simp at h⟩⟩
  · obtain ⟨b, o, rfl, hb, hi⟩ := h h0
    have : ∀ i, i < len → ∃ p : α, ok p ∧ ∀ j u, (en p)[j]? = some u → w.cell? ⟨b, o + (i * ks.length + j), none⟩ = some u := by
      intro i hil
      obtain ⟨cs, h1, h2, h3⟩ := hi i hil
      obtain ⟨p, rfl, hp⟩ := hof cs h1 h2
      exact ⟨p, hp, h3⟩
    have key : ∀ m, m ≤ len → ∃ xs : List α, xs.length = m ∧ (∀ p ∈ xs, ok p) ∧ ∀ i p, xs[i]? = some p → ∀ j u, (en p)[j]? = some u → w.cell? ⟨b, o + (i * ks.length + j), none⟩ = some u := by
      intro m
      induction m with
      | zero => intro _; exact ⟨[], rfl, by simp, fun i p h => by simp at h⟩
      | succ m ih =>
        intro hm
        obtain ⟨xs, hl, hok, hc⟩ := ih (by omega)
        obtain ⟨p, hp, hpc⟩ := this m (by omega)
        refine ⟨xs ++ [p], by simp [hl], fun q hq => ?_, fun i q hq => ?_⟩
        · rcases List.mem_append.1 hq with h | h
          · exact hok q h
          · simp at h; subst h; exact hp
        · rcases Nat.lt_or_ge i xs.length with hlt | hge
          · rw [List.getElem?_append_left hlt] at hq
            exact hc i q hq
          · have hi' : i < (xs ++ [p]).length := (List.getElem?_eq_some_iff.1 hq).1
            have : i = xs.length := by simp at hi'; omega
            subst this
            simp at hq
            subst hq
            rw [hl]
            exact hpc
    obtain ⟨xs, hl, hok, hc⟩ := key len (Nat.le_refl _)
    exact ⟨xs, hl, hok, ⟨by omega, fun _ => ⟨b, o, rfl, hb, hc⟩⟩⟩
/-! ### Making and filling rows of our own -/
theorem make_any {P : Program} (t e : TypeId) (z : Value) (size bytes : Nat) (ht : P.underlying t = some (.slice e)) (hinfo : (P.info? e).map (fun i => (i.zero, i.size, i.bytes)) = some (some z, size, bytes)) (m : Nat) (hn : bytes * m ≤ 281474976710656) (hm : m ≤ 9223372036854775807) :
    ∀ W : World, (Instr.makeSlice t (.int .i64 (m : Int)) (.int .i64 (m : Int))).run P W = .ok (.slice (some ⟨W.heap.size, 0, none⟩) m m) (W.alloc (.cells (madeCells z.cells (m * size)) e)) := by
  intro W
  obtain ⟨i, hi, hzz⟩ := Option.map_eq_some_iff.1 hinfo
  simp only [Prod.mk.injEq] at hzz
  obtain ⟨hz0, hz1, hz2⟩ := hzz
  have hb' : (i.bytes : Int) * (m : Int) ≤ 281474976710656 := by
    have h : ((i.bytes * m : Nat) : Int) ≤ 281474976710656 := by rw [hz2]; omega
    rwa [Int.natCast_mul] at h
  have hr := run_make (P := P) W t e i z ht hi hz0 .i64 .i64 m m (by omega) (Int.le_refl _) hb' (by omega)
  simp only [Int.toNat_natCast, hz1] at hr
  exact hr
def setL (cs : List Value) (o : Nat) : List Value → List Value
  | [] => cs
  | v :: vs => setL (cs.set o v) (o + 1) vs
theorem setL_length (vs : List Value) : ∀ (cs : List Value) (o : Nat), (setL cs o vs).length = cs.length := by
  induction vs with
  | nil => intro cs o; rfl
  | cons v vs ih => intro cs o; simp [setL, ih]
theorem setL_take (vs : List Value) : ∀ (cs : List Value) (o : Nat), o + vs.length ≤ cs.length → (setL cs o vs).take (o + vs.length) = cs.take o ++ vs := by
  induction vs with
  | nil => intro cs o _; simp [setL]
  | cons v vs ih =>
    intro cs o h
    simp only [List.length_cons] at h ⊢
    have := ih (cs.set o v) (o + 1) (by simp; omega)
    rw [show o + (vs.length + 1) = o + 1 + vs.length from by omega, setL, this, List.take_add_one, List.take_set_of_le (Nat.le_refl _), List.getElem?_set_self (by omega)]
    simp
theorem flat_take {α : Type} {en : α → List Value} {n : Nat} (hn : ∀ p, (en p).length = n) {xs : List α} {cs : List Value} {k : Nat} {p : α} (hp : xs[k]? = some p) (hl : cs.length = xs.length * n) (h : cs.take (k * n) = (xs.take k).flatMap en) :
    (setL cs (k * n) (en p)).take ((k + 1) * n) = (xs.take (k + 1)).flatMap en := by
  have hk : k < xs.length := (List.getElem?_eq_some_iff.1 hp).1
  have hle : (k + 1) * n ≤ cs.length := by rw [hl]; exact Nat.mul_le_mul_right _ hk
  have := setL_take (en p) cs (k * n) (by rw [hn, ← Nat.succ_mul]; exact hle)
  rw [hn, ← Nat.succ_mul] at this
  rw [this, h, List.take_add_one, hp, List.flatMap_append]
  simp
theorem getD_some {cs : List Value} {j : Nat} (h : j < cs.length) : cs[j]? = some (cs.getD j undef) := by simp [List.getElem?_eq_getElem h]
theorem own_step {w w1 : World} {base : Nat} {e : TypeId} {size n : Nat} {v : Value} {xs : List Value} (h : w.ownsRow base e size v n xs) (hb : Below w.heap.size w w1) : w1.ownsRow base e size v n xs :=
  h.kept (row := Option.none) ⟨hb.os, hb.tape, hb.output, hb.size, fun i hi _ => hb.block i hi⟩ (by cases v.ownBlock <;> simp)
/-- What marks a slice: element i bears what its maker gives for the counter as it stands there. -/
def markL {α : Type} (mk : Int → α) (f : Nat) : Nat → Int → List α
  | 0, _ => []
  | m + 1, k => mk k :: markL mk f m (k + f)
theorem markL_length {α : Type} (mk : Int → α) (f : Nat) : ∀ m k, (markL mk f m k).length = m
  | 0, _ => rfl
  | m + 1, k => by simp [markL, markL_length mk f m]
theorem markL_get {α : Type} (mk : Int → α) (f : Nat) : ∀ (m : Nat) (k : Int) (i : Nat), i < m → (markL mk f m k)[i]? = some (mk (k + f * i))
  | 0, _, _, h => by omega
  | m + 1, k, 0, _ => by simp [markL]
  | m + 1, k, i + 1, h => by
    simp only [markL, List.getElem?_cons_succ]
    rw [markL_get mk f m (k + f) i (by omega)]
    congr 2
    rw [Int.natCast_succ, Int.mul_add]
    omega
/-! ### append -/
/-- append(v, ys...): v a row of our own (nil let in), ys a slice that is read (nil let in). -/
theorem app_many {P : Program} {ops : Array Oper} {rest : List Oper} {o : Oper} {a : Act} {Q : Exit → Act → World → Prop} {w : World} (hgd : o.guard = none) (s x : Operand) (t : TypeId)
    (ho : o.op = .call { callee := .builtin .append, args := #[s, x], argTypes := #[t, t] })
    (base : Nat) (e : TypeId) (z : Value) (size bytes : Nat) (ht : P.underlying t = some (.slice e)) (hinfo : (P.info? e).map (fun i => (i.zero, i.size, i.bytes)) = some (some z, size, bytes)) (hzs : z.cells.size = size) (hsz : 0 < size)
    (v : Value) (n : Nat) (xs : List Value) (hs : a.eval s = v) (hown : w.ownsRow base e size v n xs)
    (A : Option Addr) (m c : Nat) (news : List Value) (hx : a.eval x = .slice A m c) (hl : news.length = m * size) (hnews : 0 < m → ∃ b q, A = some ⟨b, q, none⟩ ∧ ∀ j u, news[j]? = some u → w.cell? ⟨b, q + j, none⟩ = some u) (h1 : ∀ u ∈ news, u.oneCell' = true)
    (hnil : m = 0 → A = none ∧ c = 0 ∨ A ≠ none) (hbytes : (n + m) * bytes ≤ 140737488355328) (hb0 : 0 < bytes) (hbase : base ≤ w.heap.size)
    (h : ∀ v' w', w'.ownsRow base e size v' (n + m) (xs ++ news) → w.grownBy w' v.ownBlock → (v'.ownBlock = v.ownBlock ∨ v'.ownBlock = some w.heap.size) → wpList P ops Q rest (a.put o.dst v') w') :
    wpList P ops Q (o :: rest) a w := by
  obtain ⟨i, hi, hzz⟩ := Option.map_eq_some_iff.1 hinfo
  simp only [Prod.mk.injEq] at hzz
  obtain ⟨hz0, hz1, hz2⟩ := hzz
  have hlen : n + m ≤ 140737488355328 := Nat.le_trans (Nat.le_mul_of_pos_right _ hb0) hbytes
  rcases A with _ | ad
  · have h0 : m = 0 := by
      rcases Nat.eq_zero_or_pos m with h0 | h0
      · exact h0
      · obtain ⟨_, _, h, _⟩ := hnews h0
        cases h
    subst h0
    have hc : c = 0 := by
      rcases hnil rfl with h | h
      · exact h.2
      · exact absurd rfl h
    subst hc
    obtain rfl : news = [] := List.eq_nil_of_length_eq_zero (by omega)
    have hrun : (Builtin.append_ #[t, t] o.type #[v, .slice none 0 0]).run P w = .ok v w := by
      rcases hown.2 with ⟨rfl, hn⟩ | ⟨g, cap, cur, rfl, _, _, hnc, _⟩
      · simp [Builtin.append_, run_underlying ht, sizeOf, typeInfo, hi, Builtin.lenOf, Builtin.firstCells]
      · simp [Builtin.append_, run_underlying ht, sizeOf, typeInfo, hi, Builtin.lenOf, Builtin.firstCells, hnc, storeCells]
    refine wpList_plain hgd fun K hK => ?_
    unfold Oper.wp execOp
    simp only [ho, resolve, invoke, builtin, Sem.run_bind, Sem.run_pure, Result.andThen_ok, List.map_toArray, List.map_cons, List.map_nil, hs, hx, hrun]
    exact hK _ _ (h v w (by simpa using hown) (World.grownBy.refl w _) (.inl rfl))
  · refine wpList_append_own_at w hgd s x t ho base e i z size bytes ht hi hz0 hz1 hz2 hzs hsz v n xs hs hown ad m c news hx hl ?_ h1 (by simp only [maxLen]; omega) hbytes hbase (fun v' w' h2 h3 _ h5 => h v' w' h2 h3 h5)
    intro j u hu
    have hm : 0 < m := by
      rcases Nat.eq_zero_or_pos m with h0 | h0
      · subst h0
        simp at hl
        subst hl
        simp at hu
      · exact h0
    obtain ⟨b, q, hA, hc⟩ := hnews hm
    injection hA with hA
    subst hA
    have e1 : (⟨b, q, none⟩ : Addr).add j = ⟨b, q + j, none⟩ := by unfold Addr.add; split <;> simp_all
    rw [e1]
    exact hc j u hu
theorem SlA.flat {α : Type} {enc : α → List Value} {n : Nat} {w : World} {a : Option Addr} {xs : List α} (hn : ∀ p, (enc p).length = n) (h : SlA enc n w a xs) :
    0 < xs.length → ∃ b q, a = some ⟨b, q, none⟩ ∧ ∀ j u, (xs.flatMap enc)[j]? = some u → w.cell? ⟨b, q + j, none⟩ = some u := by
  intro hp
  obtain ⟨b, q, e, _, hc⟩ := h.cells hp
  refine ⟨b, q, e, fun j u hu => ?_⟩
  have key : ∀ (l : List α) (j : Nat), (l.flatMap enc)[j]? = some u → ∃ i r p, j = i * n + r ∧ l[i]? = some p ∧ (enc p)[r]? = some u := by
    intro l
    induction l with
    | nil => intro j hj; simp at hj
    | cons x l ih =>
      intro j hj
      rw [List.flatMap_cons] at hj
      rcases Nat.lt_or_ge j n with hlt | hge
      · rw [List.getElem?_append_left (by rw [hn]; exact hlt)] at hj
        exact ⟨0, j, x, by omega, rfl, hj⟩
      · rw [List.getElem?_append_right (by rw [hn]; exact hge), hn] at hj
        obtain ⟨i, r, p, e, h1, h2⟩ := ih _ hj
        exact ⟨i + 1, r, p, by rw [Nat.succ_mul]; omega, h1, h2⟩
  obtain ⟨i, r, p, rfl, h1, h2⟩ := key xs j hu
  exact hc i p h1 r u h2
theorem own_grown {w w1 : World} {base b2 : Nat} {e e2 : TypeId} {size n s2 n2 : Nat} {v v2 : Value} {xs ys : List Value} (h : w.ownsRow base e size v n xs) (h2 : w.ownsRow b2 e2 s2 v2 n2 ys) (hne : ∀ k, v.ownBlock = some k → k < b2) (hg : w.grownBy w1 v2.ownBlock) : w1.ownsRow base e size v n xs := by
  refine h.kept hg ?_
  cases hv : v.ownBlock with
  | none => exact .inl rfl
  | some k =>
    refine .inr fun e => ?_
    have h3 := (h2.lt k (e ▸ rfl)).1
    have h4 := hne k hv
    omega
theorem below_own {w0 w w1 : World} {base : Nat} {e : TypeId} {size n : Nat} {v : Value} {xs : List Value} (hb : Below base w0 w) (h : w.ownsRow base e size v n xs) (hB : base ≤ w.heap.size) (hg : w.grownBy w1 v.ownBlock) : Below base w0 w1 :=
  hb.grown hg hB (fun k hk => (h.lt k hk).1)
theorem flatMap_len {α : Type} {en : α → List Value} {n : Nat} (hn : ∀ p, (en p).length = n) : ∀ xs : List α, (xs.flatMap en).length = xs.length * n
  | [] => by simp
  | x :: xs => by rw [List.flatMap_cons, List.length_append, hn, flatMap_len hn xs, List.length_cons, Nat.succ_mul]; omega
theorem oneCell_flat {α : Type} {en : α → List Value} (h1 : ∀ p, ∀ u ∈ en p, u.oneCell' = true) (xs : List α) : ∀ u ∈ xs.flatMap en, u.oneCell' = true := by
  intro u hu
  obtain ⟨p, _, hp⟩ := List.mem_flatMap.1 hu
  exact h1 p u hp
theorem own_slice {w : World} {base n : Nat} {e : TypeId} {size : Nat} {v : Value} {xs : List Value} (h : w.ownsRow base e size v n xs) : ∃ A c, v = .slice A n c := by
  rcases h.2 with ⟨rfl, rfl⟩ | ⟨g, cap, cur, rfl, _⟩
  · exact ⟨none, 0, rfl⟩
  · exact ⟨_, cap, rfl⟩
theorem own_nil_cap {w : World} {base n c : Nat} {e : TypeId} {size : Nat} {xs : List Value} (h : w.ownsRow base e size (.slice none n c) n xs) : c = 0 := by
  rcases h.2 with ⟨h, _⟩ | ⟨g, cap, cur, h, _⟩
  · injection h
  · injection h with h; cases h
theorem flat_takes {α : Type} {en : α → List Value} {n : Nat} (hn : ∀ p, (en p).length = n) : ∀ (xs : List α) (k : Nat), (xs.flatMap en).take (k * n) = (xs.take k).flatMap en ∧ (xs.flatMap en).drop (k * n) = (xs.drop k).flatMap en
  | xs, 0 => by simp
  | [], k + 1 => by simp
  | x :: xs, k + 1 => by
    have ih := flat_takes hn xs k
    have e : (k + 1) * n = (en x).length + k * n := by rw [hn, Nat.succ_mul]; omega
    rw [List.flatMap_cons, e, List.take_length_add_append, List.drop_length_add_append, ih.1, ih.2]
    simp
theorem setL_eq (vs : List Value) : ∀ (cs : List Value) (o : Nat), o + vs.length ≤ cs.length → setL cs o vs = cs.take o ++ vs ++ cs.drop (o + vs.length) := by
  induction vs with
  | nil => intro cs o h; simp [setL]
  | cons v vs ih =>
    intro cs o h
    simp only [List.length_cons] at h ⊢
    rw [setL, ih _ _ (by simp; omega), List.take_add_one, List.take_set_of_le (Nat.le_refl _), List.getElem?_set_self (by omega), List.drop_set_of_lt (by omega)]
    simp [show o + 1 + vs.length = o + (vs.length + 1) from by omega]
theorem flat_set {α : Type} {en : α → List Value} {n : Nat} (hn : ∀ p, (en p).length = n) (xs : List α) (k : Nat) (p : α) (hk : k < xs.length) : (xs.set k p).flatMap en = setL (xs.flatMap en) (k * n) (en p) := by
  have hl := flatMap_len hn xs
  have hle : (k + 1) * n ≤ xs.length * n := Nat.mul_le_mul_right _ hk
  rw [setL_eq _ _ _ (by rw [hn, hl, ← Nat.succ_mul]; exact hle), hn, ← Nat.succ_mul, (flat_takes hn xs k).1, (flat_takes hn xs (k + 1)).2, List.set_eq_take_append_cons_drop, if_pos hk, List.flatMap_append, List.flatMap_cons]
  simp
theorem own_low {w : World} {base b2 n : Nat} {e : TypeId} {size : Nat} {v : Value} {xs : List Value} (h : w.ownsRow base e size v n xs) (hb : b2 ≤ base) : w.ownsRow b2 e size v n xs :=
  ⟨h.1, h.2.imp id (fun ⟨g, cap, cur, hv, hg, r⟩ => ⟨g, cap, cur, hv, Nat.le_trans hb hg, r⟩)⟩
end Go.Proofs.Ytgkgklgeobbmlaa
