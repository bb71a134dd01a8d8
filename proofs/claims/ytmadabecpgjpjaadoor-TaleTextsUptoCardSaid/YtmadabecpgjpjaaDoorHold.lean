/- A statement whose order is open: what holds of the world (S) till number n comes up; loads are taken first; from number n on the order is forced. -/
import Derived.Test.YtmadabecpgjpjaaDoorArea
import Derived.Deep.RegionHeld
namespace Go.Proofs.YtmadabecpgjpjaaDoor
open Go
section
variable {P : Program} {ops : Array Oper} {Q : Exit → Act → World → Prop} {md : Region.Mode} {S : World → Prop}

def wpHT (P : Program) (md : Region.Mode) (ops : Array Oper) (Q : Exit → Act → World → Prop) (S : World → Prop) (n : Nat) : Nat → Array Bool → Act → World → Prop
  | 0, listed, a, w => Region.seqB md ops (ops.size - n) n listed = true ∧ wpList P ops Q (ops.toList.drop n) a w
  | f + 1, listed, a, w => Region.ready md ops listed ≠ [] ∧ ∀ i ∈ Region.ready md ops listed, i < n ∧ wpOp P ops Q i (fun a' w' => S w' ∧ wpHT P md ops Q S n f (listed.setIfInBounds i true) a' w') a w

theorem wpHT_sound {n : Nat} : ∀ (f : Nat) (listed : Array Bool) (a : Act) (w : World), wpHT P md ops Q S n f listed a w → wpAny P md ops Q (f + (ops.size - n)) listed a w
  | 0, listed, a, w, h => by
    rw [Nat.zero_add]
    have := wpAny_of_seq (md := md) (Q' := Q) (ops.toList.drop n) n listed a w (fun j => by simp [List.getElem?_drop]) (by simpa using h.1) h.2
    simpa using this
  | f + 1, listed, a, w, h => by
    rw [show f + 1 + (ops.size - n) = (f + (ops.size - n)) + 1 by omega]
    exact ⟨fun h0 => absurd h0 h.1, fun i hi => wpOp_mono (fun a' w' h' => wpHT_sound f _ a' w' h'.2) (h.2 i hi).2⟩

theorem wpHT_first {n i : Nat} {oi : Oper} {v : Value} (hi : ops[i]? = some oi) (hsel : ∀ (j : Nat) (o : Oper) cs b, ops[j]? = some o → o.op ≠ .select cs b)
    (hQ : ∀ c a w, Q (.panic c) (a.put oi.dst v) w → Q (.panic c) a w)
    (hs : Region.sinkB md ops n = true) (hc : Region.chainB md ops n = true) (hn : n < ops.size) (hin : i < n) :
    ∀ (f : Nat) (listed : Array Bool) (a : Act) (w : World), HeadInv md ops n listed →
      (∀ j oj, ops[j]? = some oj → j ≠ i → listed.getD j true = false → (∀ e ∈ oj.after, Region.binds md e = true → e.on ≠ i) → oi.apart ops oj = true) →
      i ∈ Region.ready md ops listed → YieldsIf P ops S oi v a → S w →
      wpHT P md ops Q S n f (listed.setIfInBounds i true) (a.put oi.dst v) w → wpHT P md ops Q S n (f + 1) listed a w := by
  intro f
  induction f with
  | zero =>
    intro listed a w inv _ hr hy hS H
    have hun := (mem_ready.1 hr).1
    refine ⟨fun h => (by rw [h] at hr; cases hr), fun j hj => ?_⟩
    have hjn : j < n := by
      rcases Nat.lt_or_ge j n with h | h
      · exact h
      · exact absurd hj (tail_waits hs hc hn inv _ i rfl hin hun j h)
    refine ⟨hjn, ?_⟩
    by_cases hji : j = i
    · subst hji; exact hy.wpOp hi hS ⟨hS, H⟩
    · have := seqB_ready H.1 j (ready_mono hj hji)
      omega
  | succ f ih =>
    intro listed a w inv hfree hr hy hS H
    have hun := (mem_ready.1 hr).1
    refine ⟨fun h => (by rw [h] at hr; cases hr), fun j hj => ?_⟩
    have hjn : j < n := by
      rcases Nat.lt_or_ge j n with h | h
      · exact h
      · exact absurd hj (tail_waits hs hc hn inv _ i rfl hin hun j h)
    refine ⟨hjn, ?_⟩
    by_cases hji : j = i
    · subst hji; exact hy.wpOp hi hS ⟨hS, H⟩
    · have h1 := (H.2 j (ready_mono hj hji)).2
      obtain ⟨hjun, oj, hoj, hall⟩ := mem_ready.1 hj
      have hnot : ∀ e ∈ oj.after, Region.binds md e = true → e.on ≠ i := fun e he hb heq => by
        have h1 := hall e he hb
        rw [heq, getD_both hun] at h1
        cases h1
      have h2 := wpOp_putIf hoj (hfree j oj hoj hji hjun hnot) (fun cs b => hsel i oi cs b hi) (fun cs b => hsel j oj cs b hoj) hQ hy h1
      have hfree' : ∀ k ok, ops[k]? = some ok → k ≠ i → (listed.setIfInBounds j true).getD k true = false →
          (∀ e ∈ ok.after, Region.binds md e = true → e.on ≠ i) → oi.apart ops ok = true := fun k ok hk hki hun hno => by
        refine hfree k ok hk hki ?_ hno
        by_cases hjk : j = k
        · subst hjk; exact hjun
        · rw [getD_set_ne true hjk] at hun; exact hun
      refine wpOp_mono (fun a' w' h3 => ⟨h3.2.1, ih (listed.setIfInBounds j true) a' w' (inv.set hj hjn) hfree' (ready_mono hr (Ne.symm hji)) h3.1 h3.2.1 ?_⟩) h2
      rw [Array.setIfInBounds_comm _ _ hji]
      exact h3.2.2

/-- What is asked of the region as a whole. -/
def holdB (ops : Array Oper) (n : Nat) : Bool := Region.noSelect ops && decide (n < ops.size) && Region.sinkB .any ops n && Region.chainB .any ops n

/-- THE BEGINNING. -/
theorem hold_begin {id n : Nat} {a : Act} {w : World} {l : List Oper} (hm : P.follows .mixedOrders = true) (hB : holdB l.toArray n = true)
    (h : wpHT P .any l.toArray Q S n n (List.replicate l.length false).toArray a w.drew) : (Code.region id l.toArray true).wp P Q a w := by
  simp only [holdB, Bool.and_eq_true, decide_eq_true_eq] at hB
  obtain ⟨⟨⟨_, hn⟩, _⟩, _⟩ := hB
  refine wp_region_any hm ?_
  have := wpHT_sound n _ a w.drew h
  rw [show n + (l.toArray.size - n) = l.toArray.size by omega] at this
  have e : (List.replicate l.length false).toArray = Array.replicate l.toArray.size false := by simp
  rw [e] at this
  exact this

/-- TAKE NUMBER i FIRST: it yields v in every world that meets S. -/
theorem hold_take (i : Nat) {n f d : Nat} {fl : List Bool} {a : Act} {w : World} {oi : Oper} (v : Value) (hi : ops[i]? = some oi) (hd : oi.dst = some d) (hin : i < n)
    (hB : holdB ops n = true) (hcl : closedL .any ops n fl.toArray = true) (hf : Region.free .any ops fl.toArray i = true) (hr : (Region.ready .any ops fl.toArray).contains i = true)
    (hQ : ∀ c a w, Q (.panic c) (a.put (some d) v) w → Q (.panic c) a w) (hS : S w) (hg : Region.wanted oi (yielded ops a.tmps) = true)
    (hy : ∀ w, S w → (execOp a.eval oi).run P w = .ok (.value v) w)
    (h : wpHT P .any ops Q S n f (fl.set i true).toArray (a.put (some d) v) w) : wpHT P .any ops Q S n (f + 1) fl.toArray a w := by
  simp only [holdB, Bool.and_eq_true, decide_eq_true_eq] at hB
  obtain ⟨⟨⟨hsel, hn⟩, hs⟩, hc⟩ := hB
  have h' : wpHT P .any ops Q S n f (fl.toArray.setIfInBounds i true) (a.put oi.dst v) w := by
    rw [hd]
    simpa using h
  exact wpHT_first hi (Region.noSelect_spec hsel) (fun c a w => by rw [hd]; exact hQ c a w) hs hc hn hin f fl.toArray a w (closedL_spec hcl) (Region.free_spec hi hf) (by simpa using hr) (.inl ⟨hg, hy⟩) hS h'

/-- NUMBER i ALONE CAN COME UP. -/
theorem hold_force (i : Nat) {n f : Nat} {fl : List Bool} {a : Act} {w : World} {oi : Oper} (hi : ops[i]? = some oi) (hin : i < n) (hr : Region.ready .any ops fl.toArray = [i]) (hg : oi.guard = none)
    (h : ∀ K : Act → World → Prop, (∀ a' w', S w' → wpHT P .any ops Q S n f (fl.set i true).toArray a' w' → K a' w') → oi.wp P a w K Q) : wpHT P .any ops Q S n (f + 1) fl.toArray a w := by
  refine ⟨by rw [hr]; simp, fun j hj => ?_⟩
  rw [hr] at hj
  obtain rfl : j = i := by simpa using hj
  refine ⟨hin, ?_⟩
  unfold wpOp
  simp only [hi]
  rw [if_pos (by simp [Region.wanted, hg])]
  exact .inl (h _ (fun a' w' hS' h' => ⟨hS', by simpa using h'⟩))

/-- FROM NUMBER n ON. -/
theorem hold_end {n : Nat} {fl : List Bool} {a : Act} {w : World} {l t : List Oper} (hB : Region.seqB .any l.toArray (l.length - n) n fl.toArray = true) (ht : l.drop n = t) (h : wpList P l.toArray Q t a w) :
    wpHT P .any l.toArray Q S n 0 fl.toArray a w := ⟨by simpa using hB, by subst ht; exact h⟩
end
end Go.Proofs.YtmadabecpgjpjaaDoor
