/-
  A region that draws its order, walked by a state: what holds when some of its operations have come up, whichever they are.
  Three rows of one's own that are appended to in one statement, in whatever order: 'x.a, x.b, x.c = append(x.a, u), append(x.b, v), append(x.c, z)'.
  Conditions: none; general law.
-/
import Derived.Test.YthhfndifcdiomaaGreatBase
import Derived.Orders
import Derived.Deep.AppendLies
namespace Go.Proofs.YthhfndifcdiomaaGreat
open Go.RowKit
set_option linter.unusedSimpArgs false
set_option linter.unusedVariables false

section
variable {P : Program} {ops : Array Oper} {Q : Exit → Act → World → Prop} {md : Region.Mode}
def lst (n : Nat) (b D : Nat → Bool) : Array Bool := (Array.range n).map fun j => b j || D j
theorem lst_get {n j : Nat} {b D : Nat → Bool} {d : Bool} (h : j < n) : (lst n b D).getD j d = (b j || D j) := by
  unfold lst
  rw [Array.getD_eq_getD_getElem?, Array.getElem?_map, Array.getElem?_eq_getElem (by simpa using h)]
  simp
def plus (D : Nat → Bool) (i j : Nat) : Bool := decide (j = i) || D j
theorem lst_set (n i : Nat) (b D : Nat → Bool) : (lst n b D).setIfInBounds i true = lst n b (plus D i) := by
  apply Array.ext
  · simp [lst]
  · intro j h1 h2
    have hj : j < n := by simpa [lst] using h2
    have e1 : ((lst n b D).setIfInBounds i true)[j] = if i = j then true else (b j || D j) := by
      rw [Array.getElem_setIfInBounds]
      split
      · rfl
      · simp [lst]
      · simpa [lst] using hj
    rw [e1]
    simp only [lst, plus, Array.getElem_map, Array.getElem_range]
    by_cases e : i = j
    · subst e; simp
    · have : ¬ j = i := fun h => e h.symm
      simp [e, this]
def unl (D : Nat → Bool) : List Nat → Nat
  | [] => 0
  | r :: R => (if D r = true then 0 else 1) + unl D R
theorem unl_out {D : Nat → Bool} {i : Nat} : ∀ {R : List Nat}, i ∉ R → unl (plus D i) R = unl D R
  | [], _ => rfl
  | r :: R, h => by
    have h1 : r ≠ i := fun e => h (by rw [e]; exact List.mem_cons_self)
    have h2 : i ∉ R := fun e => h (List.mem_cons_of_mem _ e)
    simp only [unl, unl_out h2, plus, h1, decide_false, Bool.false_or]
theorem unl_in {D : Nat → Bool} {i : Nat} (hd : D i = false) : ∀ {R : List Nat}, R.Nodup → i ∈ R → unl (plus D i) R + 1 = unl D R
  | [], _, h => by cases h
  | r :: R, hn, h => by
    rw [List.nodup_cons] at hn
    by_cases e : r = i
    · subst e
      simp only [unl, unl_out hn.1, plus, decide_true, Bool.true_or, if_true, hd, Bool.false_eq_true, if_false]
      omega
    · have hi : i ∈ R := by
        rcases List.mem_cons.1 h with h | h
        · exact absurd h.symm e
        · exact h
      have ih := unl_in hd hn.2 hi
      have e2 : plus D i r = D r := by simp [plus, e]
      simp only [unl, e2]
      omega
theorem unl_zero {D : Nat → Bool} : ∀ {R : List Nat}, unl D R = 0 → ∀ r ∈ R, D r = true
  | [], _, r, h => by cases h
  | q :: R, h0, r, h => by
    simp only [unl] at h0
    have h1 : D q = true := by
      cases e : D q with
      | true => rfl
      | false => rw [e] at h0; simp at h0
    rcases List.mem_cons.1 h with rfl | h
    · exact h1
    · exact unl_zero (by rw [h1] at h0; simpa using h0) r h
theorem unl_pos {D : Nat → Bool} : ∀ {R : List Nat} {m : Nat}, unl D R = m + 1 → ∃ r ∈ R, D r = false
  | [], m, h => by simp [unl] at h
  | q :: R, m, h => by
    cases e : D q with
    | false => exact ⟨q, List.mem_cons_self, e⟩
    | true =>
      simp only [unl, e, if_true, Nat.zero_add] at h
      obtain ⟨r, h1, h2⟩ := unl_pos h
      exact ⟨r, List.mem_cons_of_mem _ h1, h2⟩
theorem wpAny_phase {n f0 : Nat} {b : Nat → Bool} {R : List Nat} (hn : ops.size = n) (Φ : (Nat → Bool) → Act → World → Prop) (hnd : R.Nodup) (hb : ∀ r ∈ R, r < n ∧ b r = false)
    (hdag : ∀ r ∈ R, ∀ o, ops[r]? = some o → ∀ e ∈ o.after, Region.binds md e = true → e.on < n ∧ (b e.on = true ∨ (e.on ∈ R ∧ e.on < r)))
    (step : ∀ D a w, Φ D a w → ∀ i o, ops[i]? = some o → b i = false → D i = false → (∃ r ∈ R, D r = false) → (∀ e ∈ o.after, Region.binds md e = true → (b e.on || D e.on) = true) → i ∈ R ∧ wpOp P ops Q i (Φ (plus D i)) a w)
    (hon : ∀ (i : Nat) o, ops[i]? = some o → ∀ e ∈ o.after, e.on < n)
    (fin : ∀ a w, Φ (fun j => decide (j ∈ R)) a w → wpAny P md ops Q f0 (lst n b (fun j => decide (j ∈ R))) a w) :
    ∀ m D a w, unl D R = m → (∀ j, j ∉ R → D j = false) → Φ D a w → wpAny P md ops Q (f0 + m) (lst n b D) a w := by
  intro m
  induction m with
  | zero =>
    intro D a w hu hout hΦ
    have e : D = fun j => decide (j ∈ R) := by
      funext j
      by_cases h : j ∈ R
      · rw [unl_zero hu j h, decide_eq_true h]
      · rw [hout j h, decide_eq_false h]
    subst e
    exact fin a w hΦ
  | succ m ih =>
    intro D a w hu hout hΦ
    obtain ⟨r0, hr0, hd0⟩ := unl_pos hu
    have hex : ∀ r, r ∈ R → D r = false → ∃ i, i ∈ Region.ready md ops (lst n b D) := by
      intro r
      induction r using Nat.strongRecOn with
      | _ r ihr =>
        intro hr hd
        have hrn := hb r hr
        have hro : r < ops.size := by rw [hn]; exact hrn.1
        by_cases hall : ∀ e ∈ (ops[r]).after, Region.binds md e = true → (b e.on || D e.on) = true
        · refine ⟨r, mem_ready.2 ⟨by rw [lst_get hrn.1, hrn.2, hd]; rfl, ops[r], Array.getElem?_eq_getElem hro, fun e he hbd => ?_⟩⟩
          have := hdag r hr _ (Array.getElem?_eq_getElem hro) e he hbd
          rw [lst_get this.1]
          exact hall e he hbd
        · obtain ⟨e, he⟩ := Classical.not_forall.1 hall
          obtain ⟨he1, he2⟩ := Classical.not_imp.1 he
          obtain ⟨hbd, hne⟩ := Classical.not_imp.1 he2
          have hg := hdag r hr _ (Array.getElem?_eq_getElem hro) e he1 hbd
          rcases hg.2 with h1 | h1
          · rw [h1] at hne; exact absurd rfl hne
          · refine ihr e.on h1.2 h1.1 ?_
            cases hx : D e.on with
            | false => rfl
            | true => rw [hx] at hne; simp at hne
    refine ⟨fun h => ?_, fun i hi => ?_⟩
    · obtain ⟨i, hi⟩ := hex r0 hr0 hd0
      rw [h] at hi
      cases hi
    · obtain ⟨hun, o, ho, hall⟩ := mem_ready.1 hi
      have hin : i < n := by rw [← hn]; exact (Array.getElem?_eq_some_iff.1 ho).1
      rw [lst_get hin] at hun
      simp only [Bool.or_eq_false_iff] at hun
      obtain ⟨hiR, hw⟩ := step D a w hΦ i o ho hun.1 hun.2 ⟨r0, hr0, hd0⟩ (fun e he hbd => by
        have := hall e he hbd
        rwa [lst_get (hon i o ho e he)] at this)
      refine wpOp_mono (fun a' w' h' => ?_) hw
      rw [lst_set]
      refine ih _ a' w' ?_ (fun j hj => ?_) h'
      · have := unl_in hun.2 hnd hiR
        omega
      · have : j ≠ i := fun e => hj (e ▸ hiR)
        simp [plus, this, hout j hj]
/-- All that the rule asks of the edges, as one Bool. -/
def phaseB (md : Region.Mode) (ops : Array Oper) (n : Nat) (b : Nat → Bool) (R : List (Nat × List Nat)) (last : Nat) : Bool :=
  decide (ops.size = n) && (decide ((R.map (·.1)).Nodup) && ((R.map (·.1)).contains last && (R.all (fun p => decide (p.1 < n) && (!b p.1 && match ops[p.1]? with
    | some o => (o.after.all fun e => !Region.binds md e || (b e.on || ((R.map (·.1)).contains e.on && decide (e.on < p.1)))) && p.2.all fun d => !b d && o.after.any fun e => Region.binds md e && decide (e.on = d)
    | none => false)) && ((ops.all fun o => o.after.all fun e => decide (e.on < n)) &&
  (List.range n).all fun i => b i || ((R.map (·.1)).contains i || match ops[i]? with
    | some o => o.after.any fun e => Region.binds md e && decide (e.on = last)
    | none => true)))))
theorem wpAny_state {n f0 : Nat} {b : Nat → Bool} {R : List (Nat × List Nat)} {last : Nat} (Φ : (Nat → Bool) → Act → World → Prop) (hB : phaseB md ops n b R last = true)
    (step : ∀ D a w, Φ D a w → ∀ p ∈ R, D p.1 = false → (∀ d ∈ p.2, D d = true) → wpOp P ops Q p.1 (Φ (plus D p.1)) a w)
    (hlast : ∀ D a w, Φ D a w → D last = true → ∀ r ∈ R.map (·.1), D r = true)
    (fin : ∀ a w, Φ (fun j => decide (j ∈ R.map (·.1))) a w → wpAny P md ops Q f0 (lst n b (fun j => decide (j ∈ R.map (·.1)))) a w)
    (D : Nat → Bool) (a : Act) (w : World) (hout : ∀ j, j ∉ R.map (·.1) → D j = false) (h : Φ D a w) : wpAny P md ops Q (f0 + unl D (R.map (·.1))) (lst n b D) a w := by
  unfold phaseB at hB
  simp only [Bool.and_eq_true, decide_eq_true_eq, List.contains_iff_mem] at hB
  obtain ⟨hn, hnd, hl, hR, hon, hall⟩ := hB
  rw [List.all_eq_true] at hR hall
  rw [Array.all_eq_true_iff_forall_mem] at hon
  have hP : ∀ p ∈ R, p.1 < n ∧ b p.1 = false ∧ ∃ o, ops[p.1]? = some o ∧ (∀ e ∈ o.after, Region.binds md e = true → b e.on = true ∨ (e.on ∈ R.map (·.1) ∧ e.on < p.1)) ∧ ∀ d ∈ p.2, b d = false ∧ ∃ e ∈ o.after, Region.binds md e = true ∧ e.on = d := by
    intro p hp
    have := hR p hp
    simp only [Bool.and_eq_true, decide_eq_true_eq, Bool.not_eq_true'] at this
    obtain ⟨h1, h2, h3⟩ := this
    refine ⟨h1, h2, ?_⟩
    cases ho : ops[p.1]? with
    | none => rw [ho] at h3; cases h3
    | some o =>
      rw [ho] at h3
      simp only [Bool.and_eq_true] at h3
      obtain ⟨h4, h5⟩ := h3
      rw [Array.all_eq_true_iff_forall_mem] at h4
      rw [List.all_eq_true] at h5
      refine ⟨o, rfl, fun e he hbd => ?_, fun d hd => ?_⟩
      · have := h4 e he
        simp only [Bool.or_eq_true, Bool.not_eq_true', hbd, Bool.and_eq_true, decide_eq_true_eq, List.contains_iff_mem] at this
        rcases this with h | h | h
        · cases h
        · exact .inl h
        · exact .inr h
      · have := h5 d hd
        simp only [Bool.and_eq_true, Bool.not_eq_true'] at this
        obtain ⟨h6, h7⟩ := this
        obtain ⟨e, he, h8⟩ := Array.any_eq_true'.1 h7
        simp only [Bool.and_eq_true, decide_eq_true_eq] at h8
        exact ⟨h6, e, he, h8⟩
  have hon' : ∀ (i : Nat) o, ops[i]? = some o → ∀ e ∈ o.after, e.on < n := by
    intro i o ho e he
    have := hon o (Array.mem_of_getElem? ho)
    rw [Array.all_eq_true_iff_forall_mem] at this
    simpa using this e he
  refine wpAny_phase hn Φ hnd (fun r hr => ?_) (fun r hr o ho e he hbd => ?_) (fun D a w hΦ i o ho hbi hDi hun haf => ?_) hon' fin _ D a w rfl hout h
  · obtain ⟨p, hp, rfl⟩ := List.mem_map.1 hr
    exact ⟨(hP p hp).1, (hP p hp).2.1⟩
  · obtain ⟨p, hp, rfl⟩ := List.mem_map.1 hr
    obtain ⟨_, _, o', ho', h1, _⟩ := hP p hp
    rw [ho] at ho'
    cases ho'
    exact ⟨hon' _ _ ho e he, h1 e he hbd⟩
  · have hin : i < n := by rw [← hn]; exact (Array.getElem?_eq_some_iff.1 ho).1
    by_cases hiR : i ∈ R.map (·.1)
    · refine ⟨hiR, ?_⟩
      obtain ⟨p, hp, rfl⟩ := List.mem_map.1 hiR
      obtain ⟨_, _, o', ho', _, h2⟩ := hP p hp
      rw [ho] at ho'
      cases ho'
      refine step D a w hΦ p hp hDi fun d hd => ?_
      obtain ⟨hbd, e, he, h3, h4⟩ := h2 d hd
      have := haf e he h3
      rw [h4, hbd] at this
      simpa using this
    · exfalso
      have := hall i (List.mem_range.2 hin)
      rw [hbi, ho] at this
      simp only [Bool.false_or, Bool.or_eq_true, List.contains_iff_mem, hiR, false_or] at this
      obtain ⟨e, he, h1⟩ := Array.any_eq_true'.1 this
      simp only [Bool.and_eq_true, decide_eq_true_eq] at h1
      have h2 := haf e he h1.1
      obtain ⟨p, hp, hpl⟩ := List.mem_map.1 hl
      have hbl := (hP p hp).2.1
      rw [hpl] at hbl
      rw [h1.2, hbl] at h2
      obtain ⟨r, hr, hd⟩ := hun
      rw [hlast D a w hΦ (by simpa using h2) r hr] at hd
      cases hd
theorem wpAny_at {fuel fuel' : Nat} {L L' : Array Bool} {a : Act} {w : World} (h : L = L') (hf : fuel = fuel') (hw : wpAny P md ops Q fuel' L' a w) : wpAny P md ops Q fuel L a w := by rw [h, hf]; exact hw
theorem wpAny_act {fuel : Nat} {L : Array Bool} {a : Act} {w : World} (h : ∀ a0, a0 = a → wpAny P md ops Q fuel L a0 w) : wpAny P md ops Q fuel L a w := h a rfl
/-- One operation of such a region, written out. -/
theorem wpOp_of {i : Nat} {o : Oper} {K : Act → World → Prop} {a : Act} {w : World} (ho : ops[i]? = some o) (hg : o.guard = none) (h : ∀ K' : Act → World → Prop, Hid (∀ a w, K a w → K' a w) → o.wp P a w K' Q) : wpOp P ops Q i K a w := by
  unfold wpOp
  simp only [ho, Region.wanted, hg, if_true]
  exact .inl (h K (hid fun _ _ h => h))
/-- A region may be walked with a state from where its quiet operations have been taken first. -/
theorem wp_region_phase {id : Nat} {a : Act} {w : World} (hm : P.follows .mixedOrders = true) (h : wpAny P .any ops Q ops.size (Array.replicate ops.size false) a w.drew) : (Code.region id ops true).wp P Q a w := wp_region_any hm h
end
/-- One of the rows: loaded? the new element laid? appended? β: its block; γ: the new element's. -/
structure Chn (w : World) (base : Nat) (E : TypeId) (sz : Nat) (V : Value) (k : Nat) (L news : List Value) (bL bB bA : Bool) (zl zb za : Value) (β γ : Option Nat) : Prop where
  ld : bL = true → zl = V
  row0 : bA = false → w.ownsRow base E sz V k L ∧ β = V.ownBlock
  tmp : bB = true → ∃ g, zb = .slice (some ⟨g, 0, none⟩) 1 1 ∧ γ = some g ∧ g < w.heap.size ∧ ∀ j u, news[j]? = some u → w.cell? ⟨g, j, none⟩ = some u
  row1 : bA = true → ∃ A c, za = .slice A (k + 1) c ∧ w.ownsRow base E sz (.slice A (k + 1) c) (k + 1) (L ++ news) ∧ β = (Value.slice A (k + 1) c).ownBlock
  gn : bB = false → γ = none
section
variable {w w1 : World} {base : Nat} {E : TypeId} {sz : Nat} {V : Value} {k : Nat} {L news : List Value} {bL bB bA : Bool} {zl zb za : Value} {β γ : Option Nat}
theorem Chn.start (h : w.ownsRow base E sz V k L) (zl zb za : Value) : Chn w base E sz V k L news false false false zl zb za V.ownBlock none :=
  ⟨fun h => (by cases h), fun _ => ⟨h, rfl⟩, fun h => (by cases h), fun h => (by cases h), fun _ => rfl⟩
theorem Chn.kept (h : Chn w base E sz V k L news bL bB bA zl zb za β γ) {r : Option Nat} (hg : w.grownBy w1 r) (hβ : ∀ q, r = some q → β ≠ some q) (hγ : ∀ q, r = some q → γ ≠ some q) : Chn w1 base E sz V k L news bL bB bA zl zb za β γ := by
  refine ⟨h.ld, fun e => ?_, fun e => ?_, fun e => ?_, h.gn⟩
  · obtain ⟨h1, h2⟩ := h.row0 e
    refine ⟨h1.kept hg ?_, h2⟩
    cases hv : V.ownBlock with
    | none => exact .inl rfl
    | some q => exact .inr fun er => hβ q er.symm (by rw [h2, hv])
  · obtain ⟨g, h1, h2, h3, h4⟩ := h.tmp e
    refine ⟨g, h1, h2, Nat.lt_of_lt_of_le h3 hg.size, fun j u hu => (hg.cell_far ⟨g, j, none⟩ h3 (fun er => hγ g er.symm h2)).trans (h4 j u hu)⟩
  · obtain ⟨A, c, h1, h2, h3⟩ := h.row1 e
    refine ⟨A, c, h1, h2.kept hg ?_, h3⟩
    cases hv : (Value.slice A (k + 1) c).ownBlock with
    | none => exact .inl rfl
    | some q => exact .inr fun er => hβ q er.symm (by rw [h3, hv])
theorem Chn.load (h : Chn w base E sz V k L news bL bB bA zl zb za β γ) : Chn w base E sz V k L news true bB bA V zb za β γ := ⟨fun _ => rfl, h.row0, h.tmp, h.row1, h.gn⟩
theorem Chn.build (h : Chn w base E sz V k L news bL false bA zl zb za β γ) : Chn (w.alloc (.cells news.toArray E)) base E sz V k L news bL true bA zl (.slice (some ⟨w.heap.size, 0, none⟩) 1 1) za β (some w.heap.size) := by
  have h1 := h.kept (World.grownBy_alloc w (.cells news.toArray E) none) (fun q e => by cases e) (fun q e => by cases e)
  refine ⟨h1.ld, h1.row0, fun _ => ⟨w.heap.size, rfl, rfl, by simp, fun j u hu => ?_⟩, h1.row1, fun e => by cases e⟩
  simp [go_sem, hu]
/-- The append itself, as a step of the region. -/
theorem Chn.app {P : Program} (h : Chn w base E sz V k L news true true false zl zb za β γ) {o : Oper} {a : Act} {K : Act → World → Prop} {Q : Exit → Act → World → Prop} (s x : Operand) (t : TypeId)
    (ho : o.op = .call { callee := .builtin .append, args := #[s, x], argTypes := #[t, t] })
    (z : Value) (bytes : Nat) (ht : P.underlying t = some (.slice E)) (hinfo : (P.info? E).map (fun i => (i.zero, i.size, i.bytes)) = some (some z, sz, bytes)) (hzs : z.cells.size = sz) (hsz : 0 < sz)
    (hs : a.eval s = zl) (hx : a.eval x = zb) (hl : news.length = sz) (h1 : ∀ u ∈ news, u.oneCell' = true) (hbytes : (k + 1) * bytes ≤ 140737488355328) (hk : k + 1 ≤ maxLen) (hbase : base ≤ w.heap.size)
    (H : ∀ za' w' β', Chn w' base E sz V k L news true true true zl zb za' β' γ → w.grownBy w' β → (β' = β ∨ β' = some w.heap.size) → K (a.put o.dst za') w') (hne : ∀ q, β = some q → γ ≠ some q) : o.wp P a w K Q := by
  obtain ⟨i, hi, hzz⟩ := Option.map_eq_some_iff.1 hinfo
  simp only [Prod.mk.injEq] at hzz
  obtain ⟨hz0, hz1, hz2⟩ := hzz
  obtain ⟨hrow, hβ⟩ := h.row0 rfl
  obtain ⟨g, hzb, hγ, hg, hn⟩ := h.tmp rfl
  have hld := h.ld rfl
  subst hld
  refine wp_append_lies w s x t ho base E i z sz bytes ht hi hz0 hz1 hz2 hzs hsz zl k L hs hrow ⟨g, 0, none⟩ 1 1 news (by rw [hx, hzb]) (by rw [hl, Nat.one_mul]) (fun j u hu => ?_) h1 (by omega) hk hbytes hbase w.heap.size rfl ?_
  · have e : ((⟨g, 0, none⟩ : Addr).add j) = ⟨g, j, none⟩ := by unfold Addr.add; split <;> simp_all
    rw [e]
    exact hn j u hu
  · intro g2 cap w' hown hgr hat hlt
    have e2 : (Value.slice (some ⟨g2, 0, none⟩) (k + 1) cap).ownBlock = some g2 := rfl
    refine H _ w' (some g2) ⟨fun _ => rfl, fun e => (by cases e), fun _ => ⟨g, hzb, hγ, Nat.lt_of_lt_of_le hg hgr.size, fun j u hu => ?_⟩, fun _ => ⟨_, _, rfl, hown, rfl⟩, fun e => (by cases e)⟩ (by rw [hβ]; exact hgr) ?_
    · exact (hgr.cell_far ⟨g, j, none⟩ hg (fun er => hne g (by rw [hβ]; exact er.symm) hγ)).trans (hn j u hu)
    · rw [hβ]
      rcases hat with h2 | h2
      · exact .inl h2.symm
      · exact .inr (by rw [h2])
end
def setN (β : Nat → Option Nat) (i : Nat) (v : Option Nat) (j : Nat) : Option Nat := if j = i then v else β j
theorem setN_at (β : Nat → Option Nat) (i : Nat) (v : Option Nat) : setN β i v i = v := by simp [setN]
theorem setN_ne (β : Nat → Option Nat) {i j : Nat} (v : Option Nat) (h : j ≠ i) : setN β i v j = β j := by simp [setN, h]
/-- The rows' blocks are all different, and none is one of those that are read. -/
structure Dst (β γ : Nat → Option Nat) (m : Nat) : Prop where
  bb : ∀ i j, i ≠ j → ∀ q, β i = some q → β j ≠ some q
  bg : ∀ i j q, β i = some q → γ j ≠ some q
  b : ∀ i q, β i = some q → q < m
  g : ∀ i q, γ i = some q → q < m
theorem Dst.up {β γ : Nat → Option Nat} {m m' : Nat} (h : Dst β γ m) (hm : m ≤ m') : Dst β γ m' := ⟨h.bb, h.bg, fun i q e => Nat.lt_of_lt_of_le (h.b i q e) hm, fun i q e => Nat.lt_of_lt_of_le (h.g i q e) hm⟩
theorem Dst.setg {β γ : Nat → Option Nat} {m m' : Nat} (h : Dst β γ m) (hm : m < m') (i : Nat) : Dst β (setN γ i (some m)) m' := by
  refine ⟨h.bb, fun k j q e => ?_, fun k q e => Nat.lt_trans (h.b k q e) hm, fun k q e => ?_⟩
  · by_cases hj : j = i
    · rw [hj, setN_at]
      have := h.b k q e
      intro e2; cases e2; omega
    · rw [setN_ne _ _ hj]; exact h.bg k j q e
  · by_cases hj : k = i
    · rw [hj, setN_at] at e; cases e; exact hm
    · rw [setN_ne _ _ hj] at e; exact Nat.lt_trans (h.g k q e) hm
theorem Dst.setb {β γ : Nat → Option Nat} {m m' : Nat} (h : Dst β γ m) (hm : m ≤ m') {i : Nat} {v : Option Nat} (hv : v = β i ∨ v = some m) (hlt : ∀ q, v = some q → q < m') : Dst (setN β i v) γ m' := by
  have key : ∀ q, v = some q → (∀ j, j ≠ i → β j ≠ some q) ∧ ∀ j, γ j ≠ some q := by
    intro q e
    rcases hv with h1 | h1
    · rw [e] at h1
      exact ⟨fun j hj => h.bb i j (Ne.symm hj) q h1.symm, fun j => h.bg i j q h1.symm⟩
    · rw [e] at h1
      cases h1
      exact ⟨fun j hj e2 => Nat.lt_irrefl _ (h.b j _ e2), fun j e2 => Nat.lt_irrefl _ (h.g j _ e2)⟩
  refine ⟨fun k j hkj q e => ?_, fun k j q e => ?_, fun k q e => ?_, fun k q e => Nat.lt_of_lt_of_le (h.g k q e) hm⟩
  · by_cases hk : k = i
    · rw [hk, setN_at] at e
      rw [setN_ne _ _ (fun e2 => hkj (by rw [hk, e2]))]
      exact (key q e).1 j (fun e2 => hkj (by rw [hk, e2]))
    · rw [setN_ne _ _ hk] at e
      by_cases hj : j = i
      · rw [hj, setN_at]
        intro e2
        exact (key q e2).1 k hk e
      · rw [setN_ne _ _ hj]; exact h.bb k j hkj q e
  · by_cases hk : k = i
    · rw [hk, setN_at] at e; exact (key q e).2 j
    · rw [setN_ne _ _ hk] at e; exact h.bg k j q e
  · by_cases hk : k = i
    · rw [hk, setN_at] at e; exact hlt q e
    · rw [setN_ne _ _ hk] at e; exact Nat.lt_of_lt_of_le (h.b k q e) hm
end Go.Proofs.YthhfndifcdiomaaGreat
