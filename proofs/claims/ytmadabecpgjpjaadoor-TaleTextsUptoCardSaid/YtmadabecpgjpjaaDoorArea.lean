/- A statement whose order is open: its first operations yield one value each in every world of a class; the last ones come in one forced order. -/
import Derived.StillTail
import Derived.Deep.QuietTactic
import Derived.BigQuiet
import Derived.KernelRfl
namespace Go.Proofs.YtmadabecpgjpjaaDoor
open Go
section
variable {P : Program} {ops : Array Oper} {md : Region.Mode} {C : World → Prop}

/-- A world that meets S. -/
structure At (S : World → Prop) where
  w : World
  h : S w

/-- Whatever order is picked, till all of the first n have come up. -/
def anyHead (P : Program) (md : Region.Mode) (ops : Array Oper) (C : World → Prop) (n : Nat) (L : Array Bool → Act → Prop) : Nat → Array Bool → Act → Prop
  | 0, listed, a => L listed a
  | f + 1, listed, a =>
    Region.ready md ops listed ≠ [] ∧ ∀ i ∈ Region.ready md ops listed, i < n ∧ qOp P ops C i (anyHead P md ops C n L f (listed.setIfInBounds i true)) a

theorem anyHead_sound {n g : Nat} {L : Array Bool → Act → Prop} {Q' : Exit → Act → World → Prop} (hL : ∀ listed a w, C w → L listed a → wpAny P md ops Q' g listed a w) :
    ∀ (f : Nat) (listed : Array Bool) (a : Act) (w : World), C w → anyHead P md ops C n L f listed a → wpAny P md ops Q' (f + g) listed a w
  | 0, listed, a, w, hw, h => by rw [Nat.zero_add]; exact hL _ _ _ hw h
  | f + 1, listed, a, w, hw, h => by
    rw [show f + 1 + g = (f + g) + 1 by omega]
    exact ⟨fun h0 => absurd h0 h.1, fun i hi => wpOp_of_qOp hw (fun a' w' hw' h' => anyHead_sound hL f _ a' w' hw' h') (h.2 i hi).2⟩

theorem anyHead_first {n i : Nat} {oi : Oper} {v : Value} {L : Array Bool → Act → Prop} (hi : ops[i]? = some oi) (hsel : ∀ (j : Nat) (o : Oper) cs b, ops[j]? = some o → o.op ≠ .select cs b)
    (hs : Region.sinkB md ops n = true) (hc : Region.chainB md ops n = true) (hn : n < ops.size) (hin : i < n)
    (hdone : ∀ listed a, L listed a → ∀ j ∈ Region.ready md ops listed, n ≤ j) :
    ∀ (f : Nat) (listed : Array Bool) (a : Act), HeadInv md ops n listed →
      (∀ j oj, ops[j]? = some oj → j ≠ i → listed.getD j true = false → (∀ e ∈ oj.after, Region.binds md e = true → e.on ≠ i) → oi.apart ops oj = true) →
      i ∈ Region.ready md ops listed → YieldsIn P ops C oi v a →
      anyHead P md ops C n L f (listed.setIfInBounds i true) (a.put oi.dst v) → anyHead P md ops C n L (f + 1) listed a := by
  intro f
  induction f with
  | zero =>
    intro listed a inv _ hr hy H
    have hun := (mem_ready.1 hr).1
    refine ⟨fun h => (by rw [h] at hr; cases hr), fun j hj => ?_⟩
    have hjn : j < n := by
      rcases Nat.lt_or_ge j n with h | h
      · exact h
      · exact absurd hj (tail_waits hs hc hn inv _ i rfl hin hun j h)
    refine ⟨hjn, ?_⟩
    by_cases hji : j = i
    · subst hji; exact hy.qOp hi H
    · have := hdone _ _ H j (ready_mono hj hji)
      omega
  | succ f ih =>
    intro listed a inv hfree hr hy H
    have hun := (mem_ready.1 hr).1
    refine ⟨fun h => (by rw [h] at hr; cases hr), fun j hj => ?_⟩
    have hjn : j < n := by
      rcases Nat.lt_or_ge j n with h | h
      · exact h
      · exact absurd hj (tail_waits hs hc hn inv _ i rfl hin hun j h)
    refine ⟨hjn, ?_⟩
    by_cases hji : j = i
    · subst hji; exact hy.qOp hi H
    · have h1 := (H.2 j (ready_mono hj hji)).2
      obtain ⟨hjun, oj, hoj, hall⟩ := mem_ready.1 hj
      have hnot : ∀ e ∈ oj.after, Region.binds md e = true → e.on ≠ i := fun e he hb heq => by
        have h1 := hall e he hb
        rw [heq, getD_both hun] at h1
        cases h1
      have h2 := qOp_put hoj (hfree j oj hoj hji hjun hnot) (fun cs b => hsel i oi cs b hi) (fun cs b => hsel j oj cs b hoj) hy h1
      have hfree' : ∀ k ok, ops[k]? = some ok → k ≠ i → (listed.setIfInBounds j true).getD k true = false →
          (∀ e ∈ ok.after, Region.binds md e = true → e.on ≠ i) → oi.apart ops ok = true := fun k ok hk hki hun hno => by
        refine hfree k ok hk hki ?_ hno
        by_cases hjk : j = k
        · subst hjk; exact hjun
        · rw [getD_set_ne true hjk] at hun; exact hun
      refine qOp_mono (fun a' h3 => ih (listed.setIfInBounds j true) a' (inv.set hj hjn) hfree' (ready_mono hr (Ne.symm hji)) h3.1 ?_) h2
      rw [Array.setIfInBounds_comm _ _ hji]
      exact h3.2

theorem anyHead_lex {n g : Nat} {Lq : Act → Prop} (hsel : Region.noSelect ops = true) (hs : Region.sinkB md ops n = true) (hc : Region.chainB md ops n = true) (hn : n < ops.size) :
    ∀ (l : List Oper) (k : Nat) (listed : Array Bool) (a : Act), (∀ j, j < l.length → l[j]? = ops[k + j]?) → k + l.length = n → HeadInv md ops n listed →
    Region.lexHead md ops g l.length k listed = true → wpQuiet P ops C Lq l a →
    anyHead P md ops C n (fun listed' a' => Region.seqB md ops g n listed' = true ∧ Lq a') l.length listed a
  | [], k, listed, a, _, hk, _, hB, h => by
    have : k = n := by simpa using hk
    subst this
    exact ⟨by simpa [Region.lexHead] using hB, h⟩
  | o :: l, k, listed, a, hl, hk, inv, hB, h => by
    have h0 : ops[k]? = some o := by simpa using (hl 0 (by simp)).symm
    simp only [List.length_cons, Region.lexHead, Bool.and_eq_true] at hB
    obtain ⟨⟨hr, hf⟩, hB'⟩ := hB
    have hkn : k < n := by simp only [List.length_cons] at hk; omega
    have hr' : k ∈ Region.ready md ops listed := by simpa using hr
    have hst : qOp P ops C k (wpQuiet P ops C Lq l) a := by unfold qOp; simp only [h0]; exact h
    obtain ⟨v, hy, hK⟩ := yieldsIn_of_qOp h0 hst
    exact anyHead_first h0 (Region.noSelect_spec hsel) hs hc hn hkn (fun listed' a' hL => seqB_ready hL.1) l.length listed a inv (Region.free_spec h0 hf) hr' hy
      (anyHead_lex hsel hs hc hn l (k + 1) _ _ (fun j hj => by have := hl (j + 1) (by simp; omega); simpa [Nat.add_assoc, Nat.add_comm 1 j] using this) (by simp only [List.length_cons] at hk; omega) (inv.set hr' hkn) hB' hK)
end

section
variable {P : Program} {S : World → Prop} {id : Nat} {Q : Exit → Act → World → Prop} {a : Act} {w : World} {l : List Oper}

/-- THE FIRST n IN A CLASS, THE REST IN ORDER. -/
theorem area_tail (n : Nat) (hm : P.follows .mixedOrders = true) (hB : Region.lexTailB .any l.toArray n = true) (hS : S w.drew)
    (h : wpQuiet P l.toArray (fun w' => ∃ x : At S, w' = x.w) (fun a' => ∀ w', S w' → wpList P l.toArray Q (l.drop n) a' w') (l.take n) a) : (Code.region id l.toArray true).wp P Q a w := by
  simp only [Region.lexTailB, Bool.and_eq_true, decide_eq_true_eq] at hB
  obtain ⟨⟨⟨⟨hsel, hn⟩, hs⟩, hc⟩, hlex⟩ := hB
  have hn' : n < l.length := by simpa using hn
  have htl : (l.take n).length = n := by simp; omega
  have hdl : (l.drop n).length = l.toArray.size - n := by simp
  have inv0 : HeadInv .any l.toArray n (Array.replicate l.toArray.size false) :=
    ⟨by simp, fun j oj _ hl => (by rw [getD_replicate_false] at hl; cases hl), fun t _ ht => getD_in (by simpa using ht) (getD_replicate_false _ _)⟩
  have H := anyHead_lex (md := .any) (g := l.toArray.size - n) hsel hs hc hn (l.take n) 0 _ a (fun j hj => by
    have hj' : j < n := by rw [htl] at hj; exact hj
    simp [hj']) (by simpa using htl) inv0 (by rw [htl]; exact hlex) h
  refine wp_region_any hm ?_
  have := anyHead_sound (Q' := Q) (g := l.toArray.size - n) (fun listed a' w' hw' hL => by
    obtain ⟨x, rfl⟩ := hw'
    have := wpAny_of_seq (md := .any) (Q' := Q) (l.drop n) n listed a' x.w (fun j => by simp [List.getElem?_drop]) (by rw [hdl]; exact hL.1) (hL.2 x.w x.h)
    rwa [hdl] at this) _ _ _ w.drew ⟨⟨w.drew, hS⟩, rfl⟩ H
  rw [htl, show n + (l.toArray.size - n) = l.toArray.size by omega] at this
  exact this

/-- ALL IN A CLASS. -/
theorem area_all (hm : P.follows .mixedOrders = true) (hB : Region.lexB .any l.toArray = true) (hS : S w.drew)
    (h : wpQuiet P l.toArray (fun w' => ∃ x : At S, w' = x.w) (fun a' => ∀ w', S w' → Q .normal a' w') l a) : (Code.region id l.toArray true).wp P Q a w := by
  refine wp_region_quiet (C := fun w' => ∃ x : At S, w' = x.w) hm hB ⟨⟨w.drew, hS⟩, rfl⟩ ?_
  have e : (fun a' => ∀ w', (∃ x : At S, w' = x.w) → Q .normal a' w') = (fun a' => ∀ w', S w' → Q .normal a' w') := by
    funext a'
    exact propext ⟨fun H w' hw => H w' ⟨⟨w', hw⟩, rfl⟩, fun H w' ⟨x, hx⟩ => hx ▸ H x.w x.h⟩
  rw [e]
  simpa using h

/-- A callee in the class. -/
theorem at_call {f : FuncId} {args : Array Value} {x : At S} {v : Value} {R : Ending → World → Prop} (h : Calls P f args x.w R) (hr : ∀ e w', R e w' → e = .returned v ∧ S w') :
    Calls P f args x.w fun e w'' => e = .returned v ∧ ∃ y : At S, w'' = y.w :=
  h.mono fun e w' hR => ⟨(hr e w' hR).1, ⟨w', (hr e w' hR).2⟩, rfl⟩
end

/-! ### Copies ahead, then the head in a class, then the tail in order -/
section
variable {P : Program} {ops : Array Oper} {md : Region.Mode} {C : World → Prop}

/-- Each of the first n that has not come up is waited for by one that comes later, at the latest by number n. -/
def sinkL (md : Region.Mode) (ops : Array Oper) (n : Nat) (listed : Array Bool) : Bool :=
  (List.range n).all fun i => listed.getD i false || (List.range (n + 1)).any fun j => decide (i < j) && Region.waitsFor md ops j i

theorem tail_waitsL {n : Nat} {listed0 listed : Array Bool} (hs : sinkL md ops n listed0 = true) (hc : Region.chainB md ops n = true) (hn : n < ops.size) (inv : HeadInv md ops n listed)
    (hle : ∀ i, listed0.getD i false = true → listed.getD i false = true) :
    ∀ (d i : Nat), n - i = d → i < n → listed.getD i true = false → ∀ t, n ≤ t → t ∉ Region.ready md ops listed := by
  intro d
  induction d using Nat.strongRecOn with
  | _ d ih =>
    intro i hd hi hun t ht hr
    obtain ⟨_, ot, hot, hall⟩ := mem_ready.1 hr
    have htlt : t < ops.size := (Array.getElem?_eq_some_iff.1 hot).1
    by_cases htn : t = n
    · subst htn
      have h1 := List.all_eq_true.1 hs i (List.mem_range.2 hi)
      rw [Bool.or_eq_true] at h1
      rcases h1 with h1 | h1
      · have := hle i h1
        rw [getD_both hun] at this
        cases this
      obtain ⟨j, hj, hj2⟩ := List.any_eq_true.1 h1
      simp only [Bool.and_eq_true, decide_eq_true_eq] at hj2
      obtain ⟨oj, hoj, e, he, hb, hon⟩ := Region.waitsFor_spec hj2.2
      have hjle : j ≤ t := by have := List.mem_range.1 hj; omega
      by_cases hjt : j = t
      · subst hjt
        have : oj = ot := Option.some.inj (hoj.symm.trans hot)
        subst this
        have h2 := hall e he hb
        rw [hon, getD_both hun] at h2
        cases h2
      · cases hl : listed.getD j false with
        | true =>
          have h2 := inv.closed j oj hoj hl e he hb
          rw [hon, getD_both hun] at h2
          cases h2
        | false =>
          have hjs : j < listed.size := by rw [inv.size]; omega
          exact ih (t - j) (by omega) j rfl (by omega) (getD_in hjs hl) t (Nat.le_refl _) hr
    · have h1 := List.all_eq_true.1 hc t (List.mem_range.2 htlt)
      simp only [Bool.or_eq_true, decide_eq_true_eq] at h1
      rcases h1 with h1 | h1
      · omega
      · obtain ⟨o', ho', e, he, hb, hon⟩ := Region.waitsFor_spec h1
        have : o' = ot := Option.some.inj (ho'.symm.trans hot)
        subst this
        have h2 := hall e he hb
        rw [hon, getD_both (inv.tail (t - 1) (by omega) (by omega))] at h2
        cases h2

theorem le_set {listed0 listed : Array Bool} {i : Nat} (hle : ∀ j, listed0.getD j false = true → listed.getD j false = true) : ∀ j, listed0.getD j false = true → (listed.setIfInBounds i true).getD j false = true :=
  fun j hj => getD_set_true (hle j hj)

theorem anyHead_firstL {n i : Nat} {oi : Oper} {v : Value} {L : Array Bool → Act → Prop} {listed0 : Array Bool} (hi : ops[i]? = some oi) (hsel : ∀ (j : Nat) (o : Oper) cs b, ops[j]? = some o → o.op ≠ .select cs b)
    (hs : sinkL md ops n listed0 = true) (hc : Region.chainB md ops n = true) (hn : n < ops.size) (hin : i < n)
    (hdone : ∀ listed a, L listed a → ∀ j ∈ Region.ready md ops listed, n ≤ j) :
    ∀ (f : Nat) (listed : Array Bool) (a : Act), HeadInv md ops n listed → (∀ i, listed0.getD i false = true → listed.getD i false = true) →
      (∀ j oj, ops[j]? = some oj → j ≠ i → listed.getD j true = false → (∀ e ∈ oj.after, Region.binds md e = true → e.on ≠ i) → oi.apart ops oj = true) →
      i ∈ Region.ready md ops listed → YieldsIn P ops C oi v a →
      anyHead P md ops C n L f (listed.setIfInBounds i true) (a.put oi.dst v) → anyHead P md ops C n L (f + 1) listed a := by
  intro f
  induction f with
  | zero =>
    intro listed a inv hle _ hr hy H
    have hun := (mem_ready.1 hr).1
    refine ⟨fun h => (by rw [h] at hr; cases hr), fun j hj => ?_⟩
    have hjn : j < n := by
      rcases Nat.lt_or_ge j n with h | h
      · exact h
      · exact absurd hj (tail_waitsL hs hc hn inv hle _ i rfl hin hun j h)
    refine ⟨hjn, ?_⟩
    by_cases hji : j = i
    · subst hji; exact hy.qOp hi H
    · have := hdone _ _ H j (ready_mono hj hji)
      omega
  | succ f ih =>
    intro listed a inv hle hfree hr hy H
    have hun := (mem_ready.1 hr).1
    refine ⟨fun h => (by rw [h] at hr; cases hr), fun j hj => ?_⟩
    have hjn : j < n := by
      rcases Nat.lt_or_ge j n with h | h
      · exact h
      · exact absurd hj (tail_waitsL hs hc hn inv hle _ i rfl hin hun j h)
    refine ⟨hjn, ?_⟩
    by_cases hji : j = i
    · subst hji; exact hy.qOp hi H
    · have h1 := (H.2 j (ready_mono hj hji)).2
      obtain ⟨hjun, oj, hoj, hall⟩ := mem_ready.1 hj
      have hnot : ∀ e ∈ oj.after, Region.binds md e = true → e.on ≠ i := fun e he hb heq => by
        have h1 := hall e he hb
        rw [heq, getD_both hun] at h1
        cases h1
      have h2 := qOp_put hoj (hfree j oj hoj hji hjun hnot) (fun cs b => hsel i oi cs b hi) (fun cs b => hsel j oj cs b hoj) hy h1
      have hfree' : ∀ k ok, ops[k]? = some ok → k ≠ i → (listed.setIfInBounds j true).getD k true = false →
          (∀ e ∈ ok.after, Region.binds md e = true → e.on ≠ i) → oi.apart ops ok = true := fun k ok hk hki hun hno => by
        refine hfree k ok hk hki ?_ hno
        by_cases hjk : j = k
        · subst hjk; exact hjun
        · rw [getD_set_ne true hjk] at hun; exact hun
      refine qOp_mono (fun a' h3 => ih (listed.setIfInBounds j true) a' (inv.set hj hjn) (le_set hle) hfree' (ready_mono hr (Ne.symm hji)) h3.1 ?_) h2
      rw [Array.setIfInBounds_comm _ _ hji]
      exact h3.2

/-- The head in the text's order, what has come up left out. -/
def headOf (listed : Array Bool) : Nat → List Oper → List Oper
  | _, [] => []
  | k, o :: r => if listed.getD k false then headOf listed (k + 1) r else o :: headOf listed (k + 1) r
def lexL (md : Region.Mode) (ops : Array Oper) (g n : Nat) (listed0 : Array Bool) : Nat → Nat → Array Bool → Bool
  | 0, _, listed => Region.seqB md ops g n listed
  | f + 1, k, listed => if listed0.getD k false then lexL md ops g n listed0 f (k + 1) listed
    else (Region.ready md ops listed).contains k && Region.free md ops listed k && lexL md ops g n listed0 f (k + 1) (listed.setIfInBounds k true)

theorem anyHead_lexL {n g : Nat} {Lq : Act → Prop} {listed0 : Array Bool} (hsel : Region.noSelect ops = true) (hs : sinkL md ops n listed0 = true) (hc : Region.chainB md ops n = true) (hn : n < ops.size) :
    ∀ (l : List Oper) (k : Nat) (listed : Array Bool) (a : Act), (∀ j, j < l.length → l[j]? = ops[k + j]?) → k + l.length = n → HeadInv md ops n listed →
    (∀ i, listed0.getD i false = true → listed.getD i false = true) →
    lexL md ops g n listed0 l.length k listed = true → wpQuiet P ops C Lq (headOf listed0 k l) a →
    anyHead P md ops C n (fun listed' a' => Region.seqB md ops g n listed' = true ∧ Lq a') (headOf listed0 k l).length listed a
  | [], k, listed, a, _, hk, _, _, hB, h => ⟨hB, h⟩
  | o :: l, k, listed, a, hl, hk, inv, hle, hB, h => by
    have h0 : ops[k]? = some o := by simpa using (hl 0 (by simp)).symm
    have hkn : k < n := by simp only [List.length_cons] at hk; omega
    have hl' : ∀ j, j < l.length → l[j]? = ops[k + 1 + j]? := fun j hj => by have := hl (j + 1) (by simp; omega); simpa [Nat.add_assoc, Nat.add_comm 1 j] using this
    have hk' : k + 1 + l.length = n := by simp only [List.length_cons] at hk; omega
    simp only [List.length_cons, lexL] at hB
    unfold headOf at h ⊢
    cases hlk : listed0.getD k false with
    | true =>
      simp only [hlk, if_true] at hB h ⊢
      exact anyHead_lexL hsel hs hc hn l (k + 1) listed a hl' hk' inv hle hB h
    | false =>
      simp only [hlk, Bool.false_eq_true, if_false, Bool.and_eq_true] at hB h ⊢
      obtain ⟨⟨hr, hf⟩, hB'⟩ := hB
      have hr' : k ∈ Region.ready md ops listed := by simpa using hr
      have hst : qOp P ops C k (wpQuiet P ops C Lq (headOf listed0 (k + 1) l)) a := by unfold qOp; simp only [h0]; exact h
      obtain ⟨v, hy, hK⟩ := yieldsIn_of_qOp h0 hst
      exact anyHead_firstL h0 (Region.noSelect_spec hsel) hs hc hn hkn (fun listed' a' hL => seqB_ready hL.1) _ listed a inv hle (Region.free_spec h0 hf) hr' hy
        (anyHead_lexL hsel hs hc hn l (k + 1) _ _ hl' hk' (inv.set hr' hkn) (le_set hle) hB' hK)

/-- What has come up is closed, and none of the tail is among it. -/
def closedL (md : Region.Mode) (ops : Array Oper) (n : Nat) (listed : Array Bool) : Bool :=
  decide (listed.size = ops.size) &&
  ((List.range ops.size).all fun j => !listed.getD j false || ((ops[j]?).map (·.after.all fun e => !Region.binds md e || listed.getD e.on false)).getD true) &&
  (List.range ops.size).all fun t => decide (t < n) || !listed.getD t true

theorem closedL_spec {n : Nat} {listed : Array Bool} (h : closedL md ops n listed = true) : HeadInv md ops n listed := by
  simp only [closedL, Bool.and_eq_true, decide_eq_true_eq] at h
  obtain ⟨⟨h1, h2⟩, h3⟩ := h
  refine ⟨h1, fun j oj hj hl e he hb => ?_, fun t ht ht' => ?_⟩
  · have h4 := List.all_eq_true.1 h2 j (List.mem_range.2 (Array.getElem?_eq_some_iff.1 hj).1)
    simp only [hl, hj, Bool.not_true, Bool.false_or, Option.map_some, Option.getD_some] at h4
    have h5 := Array.all_eq_true'.1 h4 e he
    simpa [hb] using h5
  · have h4 := List.all_eq_true.1 h3 t (List.mem_range.2 ht')
    simp only [Bool.or_eq_true, decide_eq_true_eq] at h4
    rcases h4 with h4 | h4
    · omega
    · simpa using h4

def areaB (ops : Array Oper) (n : Nat) (listed : Array Bool) : Bool :=
  Region.noSelect ops && decide (n < ops.size) && sinkL .any ops n listed && Region.chainB .any ops n && closedL .any ops n listed && lexL .any ops (ops.size - n) n listed n 0 listed

variable {S : World → Prop} {id : Nat} {Q : Exit → Act → World → Prop} {a : Act} {w : World} {l : List Oper}

/-- Some have come up; the others of the first n in a class; the rest in order. -/
theorem area_rest0 (n : Nat) {fuel : Nat} {listed : Array Bool} (hB : areaB l.toArray n listed = true) (hfuel : fuel = (headOf listed 0 (l.take n)).length + (l.length - n)) (hS : S w)
    (h : wpQuiet P l.toArray (fun w' => ∃ x : At S, w' = x.w) (fun a' => ∀ w', S w' → wpList P l.toArray Q (l.drop n) a' w') (headOf listed 0 (l.take n)) a) : wpAny P .any l.toArray Q fuel listed a w := by
  simp only [areaB, Bool.and_eq_true, decide_eq_true_eq] at hB
  obtain ⟨⟨⟨⟨⟨hsel, hn⟩, hs⟩, hc⟩, hcl⟩, hlex⟩ := hB
  have hn' : n < l.length := by simpa using hn
  have htl : (l.take n).length = n := by simp; omega
  have hdl : (l.drop n).length = l.toArray.size - n := by simp
  have H := anyHead_lexL (md := .any) (g := l.toArray.size - n) hsel hs hc hn (l.take n) 0 listed a (fun j hj => by
    have hj' : j < n := by rw [htl] at hj; exact hj
    simp [hj']) (by simpa using htl) (closedL_spec hcl) (fun _ h => h) (by rw [htl]; exact hlex) h
  have := anyHead_sound (Q' := Q) (g := l.toArray.size - n) (fun listed a' w' hw' hL => by
    obtain ⟨x, rfl⟩ := hw'
    have := wpAny_of_seq (md := .any) (Q' := Q) (l.drop n) n listed a' x.w (fun j => by simp [List.getElem?_drop]) (by rw [hdl]; exact hL.1) (hL.2 x.w x.h)
    rwa [hdl] at this) _ _ _ w ⟨⟨w, hS⟩, rfl⟩ H
  rw [hfuel]
  simpa using this

/-- The same, the marks a list. -/
def headF : List Bool → List Oper → List Oper
  | true :: fs, _ :: r => headF fs r
  | false :: fs, o :: r => o :: headF fs r
  | [], r => r
  | _ :: _, [] => []
theorem headOf_eq (fl : List Bool) : ∀ (l : List Oper) (k : Nat), headOf fl.toArray k l = headF (fl.drop k) l
  | [], k => by cases fl.drop k with
    | nil => rfl
    | cons b t => cases b <;> rfl
  | o :: r, k => by
    unfold headOf
    by_cases hk : k < fl.length
    · rw [List.drop_eq_getElem_cons hk, headOf_eq fl r (k + 1)]
      have e : fl.toArray.getD k false = fl[k] := by simp [Array.getD, hk]
      rw [e]
      cases fl[k] <;> simp [headF]
    · rw [List.drop_eq_nil_of_le (by omega), headOf_eq fl r (k + 1), List.drop_eq_nil_of_le (by omega)]
      have e : fl.toArray.getD k false = false := by simp [Array.getD, hk]
      rw [e]
      cases r <;> simp [headF]

theorem area_rest (n : Nat) {fuel : Nat} {fl : List Bool} (hB : areaB l.toArray n fl.toArray = true) (hfuel : fuel = (headF fl (l.take n)).length + (l.length - n)) (hS : S w)
    (h : wpQuiet P l.toArray (fun w' => ∃ x : At S, w' = x.w) (fun a' => ∀ w', S w' → wpList P l.toArray Q (l.drop n) a' w') (headF fl (l.take n)) a) : wpAny P .any l.toArray Q fuel fl.toArray a w :=
  area_rest0 n hB (by rw [hfuel, headOf_eq, List.drop_zero]) hS (by rw [headOf_eq, List.drop_zero]; exact h)

/-- A copy comes up first: number i, into slot d. -/
theorem area_move (i d : Nat) (v : Value) {fuel : Nat} {listed : Array Bool} {oi : Oper} {x : Operand} (hi : ops[i]? = some oi) (ho : oi.op = .move x) (hv : a.eval x = v) (hd : oi.dst = some d) (hg : oi.guard = none)
    (hs : Region.noSelect ops = true) (hf : Region.free .any ops listed i = true) (hr : (Region.ready .any ops listed).contains i = true)
    (hQ : ∀ c a w, Q (.panic c) (a.put (some d) v) w → Q (.panic c) a w)
    (h : wpAny P .any ops Q fuel (listed.setIfInBounds i true) (a.put (some d) v) w) : wpAny P .any ops Q (fuel + 1) listed a w :=
  wpAny_take hi hs hf hr (fun c a' w' => by rw [hd]; exact hQ c a' w') (.inl ⟨by simp [Region.wanted, hg], fun w' => by simp [execOp, ho, hv]⟩) (by rw [hd]; exact h)
end
end Go.Proofs.YtmadabecpgjpjaaDoor
