/- What deed.Read reads of what deed.Write writes, and what it reads at all. -/
import Derived.Test.YtmadabecpgjpjaaDoorDeedB
namespace Go.Proofs.YtmadabecpgjpjaaDoor
open Go.RowKit

/-- The words of a deed. -/
def lineWs (f : Nat → Int) (es : List Int) : List ByteArray := wordsA f 6 ++ [nmB 6] ++ es.map dg
/-- The line of a deed. -/
def lineB (f : Nat → Int) (es : List Int) : ByteArray := ⟨(Lib.join ((lineWs f es).map (·.data.toList)) [32]).toArray⟩
/-- The numbers up to k. -/
def trim (f : Nat → Int) (k : Nat) : Nat → Int := fun j => if j < k then f j else 0

theorem atoiV_dg {n : Int} (h : I64 n) : atoiV (dg n).data.toList = (n, false) := by
  unfold atoiV dg
  simp [atoi_itoa n h.lo h.hi]

theorem bne_self (a : ByteArray) : (a != a) = false := by rw [bne_bytes]; simp
theorem bne_false {a b : ByteArray} (h : (a != b) = false) : a = b := by
  rw [bne_bytes] at h
  exact toList_inj (by simpa using h)

theorem numberS_dg {n : Int} (h : I64 n) (r : List ByteArray) : numberS (dg n :: r) false = (n, r, false) := by
  unfold numberS
  simp only [nextS, atoiV_dg h, bne_self, Bool.or_self]
theorem wordS_self (t : ByteArray) (r : List ByteArray) : wordS t (t :: r) false = (r, false) := by
  unfold wordS
  simp only [nextS, bne_self, Bool.or_self]

theorem wordsA_congr {f g : Nat → Int} : ∀ k, (∀ j, j < k → f j = g j) → wordsA f k = wordsA g k
  | 0, _ => rfl
  | k + 1, h => by rw [wordsA, wordsA, wordsA_congr k (fun j hj => h j (by omega)), h k (by omega)]

theorem stS_words (f : Nat → Int) (hf : ∀ k, k < 6 → I64 (f k)) : ∀ k, k ≤ 6 → ∀ r, stS (wordsA f k ++ r) k = (trim f k, r, false)
  | 0, _, r => by simp [stS, wordsA]; rfl
  | k + 1, hk, r => by
    have e : wordsA f (k + 1) ++ r = wordsA f k ++ (nmB k :: dg (f k) :: r) := by simp [wordsA]
    rw [e, stS, stS_words f hf k (by omega)]
    simp only [wordS_self, numberS_dg (hf k (by omega))]
    refine Prod.ext ?_ rfl
    funext j
    simp only [trim]
    by_cases h1 : j = k
    · subst h1; simp
    · by_cases h2 : j < k
      · rw [if_neg h1, if_pos h2, if_pos (by omega)]
      · rw [if_neg h1, if_neg h2, if_neg (by omega)]

theorem edgesS_dg : ∀ (es : List Int), (∀ x ∈ es, I64 x) → edgesS (es.map dg) false = (es, false)
  | [], _ => rfl
  | x :: es, h => by
    rw [List.map_cons, edgesS, numberS_dg (h x (by simp)), edgesS_dg es (fun y hy => h y (by simp [hy]))]

theorem readS_line (f : Nat → Int) (hf : ∀ k, k < 6 → I64 (f k)) (es : List Int) (h64 : ∀ x ∈ es, I64 x) (hn : es.length ≤ 64) : readS (lineWs f es) = some (trim f 6, es) := by
  have e : lineWs f es = wordsA f 6 ++ (nmB 6 :: es.map dg) := by simp [lineWs]
  unfold readS
  rw [e, stS_words f hf 6 (Nat.le_refl _), wordS_self, edgesS_dg es h64]
  rw [if_neg (by simp; omega), if_neg (by simp)]

theorem nextS_false {xs : List ByteArray} {b : Bool} (h : (nextS xs b).2.2 = false) : xs = (nextS xs b).1 :: (nextS xs b).2.1 ∧ b = false := by
  cases xs with
  | nil => simp [nextS] at h
  | cons x r => exact ⟨rfl, h⟩
theorem wordS_false {t : ByteArray} {xs : List ByteArray} {b : Bool} (h : (wordS t xs b).2 = false) : xs = t :: (wordS t xs b).1 ∧ b = false := by
  unfold wordS at h ⊢
  rw [Bool.or_eq_false_iff] at h
  obtain ⟨h1, h2⟩ := nextS_false h.2
  have h3 := bne_false h.1
  rw [h3] at h1
  exact ⟨h1, h2⟩
theorem numberS_false {xs : List ByteArray} {b : Bool} (h : (numberS xs b).2.2 = false) : xs = dg (numberS xs b).1 :: (numberS xs b).2.1 ∧ b = false ∧ I64 (numberS xs b).1 := by
  unfold numberS at h ⊢
  simp only [Bool.or_eq_false_iff] at h
  obtain ⟨h1, h2⟩ := nextS_false h.1.1
  have h3 := bne_false h.2
  refine ⟨?_, h2, atoiV_i64 _⟩
  rw [h3]
  exact h1

theorem stS_sound (xs : List ByteArray) : ∀ k, (stS xs k).2.2 = false → xs = wordsA (stS xs k).1 k ++ (stS xs k).2.1 ∧ ∀ j, j < k → I64 ((stS xs k).1 j)
  | 0, _ => ⟨rfl, by intro j hj; omega⟩
  | k + 1, h => by
    rw [stS] at h ⊢
    simp only at h ⊢
    obtain ⟨a1, a2, a3⟩ := numberS_false h
    obtain ⟨b1, b2⟩ := wordS_false a2
    obtain ⟨c1, c2⟩ := stS_sound xs k b2
    refine ⟨?_, ?_⟩
    · have e : wordsA (fun j => if j = k then (numberS (wordS (nmB k) (stS xs k).2.1 (stS xs k).2.2).1 (wordS (nmB k) (stS xs k).2.1 (stS xs k).2.2).2).1 else (stS xs k).1 j) k = wordsA (stS xs k).1 k :=
        wordsA_congr k (fun j hj => if_neg (by omega))
      rw [wordsA, e, if_pos rfl]
      generalize hN : numberS (wordS (nmB k) (stS xs k).2.1 (stS xs k).2.2).1 (wordS (nmB k) (stS xs k).2.1 (stS xs k).2.2).2 = N at a1 ⊢
      rw [a1] at b1
      rw [b1] at c1
      rw [List.append_assoc]
      exact c1
    · intro j hj
      by_cases hjk : j = k
      · rw [if_pos hjk]; exact a3
      · rw [if_neg hjk]; exact c2 j (by omega)

theorem edgesS_sound : ∀ (xs : List ByteArray) (b : Bool), (edgesS xs b).2 = false → b = false ∧ xs = (edgesS xs b).1.map dg ∧ ∀ x ∈ (edgesS xs b).1, I64 x
  | [], b, h => ⟨h, rfl, by intro x hx; simp [edgesS] at hx⟩
  | x :: r, true, h => by simp [edgesS] at h
  | x :: r, false, h => by
    rw [edgesS] at h ⊢
    simp only at h ⊢
    obtain ⟨a1, a2, a3⟩ := edgesS_sound r _ h
    obtain ⟨b1, _, b3⟩ := numberS_false a1
    refine ⟨trivial, ?_, ?_⟩
    · rw [List.map_cons, ← a2]
      exact b1
    · intro y hy
      rcases List.mem_cons.1 hy with rfl | hy
      · exact b3
      · exact a3 y hy

theorem readS_sound {xs : List ByteArray} {f : Nat → Int} {es : List Int} (h : readS xs = some (f, es)) : xs = lineWs f es ∧ es.length ≤ 64 ∧ (∀ k, k < 6 → I64 (f k)) ∧ ∀ x ∈ es, I64 x := by
  unfold readS at h
  split at h
  · cases h
  · rename_i h1
    split at h
    · cases h
    · rename_i h2
      have h2' := Bool.eq_false_iff.2 h2
      obtain ⟨a1, a2, a3⟩ := edgesS_sound _ _ h2'
      obtain ⟨b1, b2⟩ := wordS_false a1
      obtain ⟨c1, c2⟩ := stS_sound xs 6 b2
      injection h with h
      injection h with e1 e2
      rw [e1] at c1 c2
      rw [e2] at a2 a3
      rw [a2] at b1 h1
      rw [b1] at c1
      refine ⟨?_, by simpa using h1, c2, a3⟩
      rw [c1]
      simp [lineWs]

theorem nmB_noBlank (k : Nat) : NoBlank (nmB k).data.toList := by
  match k with
  | 0 => intro c hc; revert c; decide
  | 1 => intro c hc; revert c; decide
  | 2 => intro c hc; revert c; decide
  | 3 => intro c hc; revert c; decide
  | 4 => intro c hc; revert c; decide
  | 5 => intro c hc; revert c; decide
  | k + 6 => show ∀ c ∈ (nmB 6).data.toList, c ≠ 32; decide
theorem dg_noBlank (n : Int) : NoBlank (dg n).data.toList := by unfold dg; simpa using itoa_noBlank n
theorem wordsA_noBlank (f : Nat → Int) : ∀ k, ∀ x ∈ wordsA f k, NoBlank x.data.toList
  | 0, x, hx => by simp [wordsA] at hx
  | k + 1, x, hx => by
    rw [wordsA, List.mem_append] at hx
    rcases hx with hx | hx
    · exact wordsA_noBlank f k x hx
    · simp only [List.mem_cons, List.not_mem_nil, or_false] at hx
      rcases hx with rfl | rfl
      · exact nmB_noBlank k
      · exact dg_noBlank _
theorem lineWs_noBlank (f : Nat → Int) (es : List Int) : ∀ x ∈ lineWs f es, NoBlank x.data.toList := by
  intro x hx
  rw [lineWs, List.mem_append, List.mem_append] at hx
  rcases hx with (hx | hx) | hx
  · exact wordsA_noBlank f 6 x hx
  · rw [List.mem_singleton] at hx; subst hx; exact nmB_noBlank 6
  · obtain ⟨n, _, rfl⟩ := List.mem_map.1 hx; exact dg_noBlank n

theorem data_inj : ∀ {xs ys : List ByteArray}, xs.map (fun x => x.data.toList) = ys.map (fun x => x.data.toList) → xs = ys
  | [], [], _ => rfl
  | [], y :: ys, h => by simp at h
  | x :: xs, [], h => by simp at h
  | x :: xs, y :: ys, h => by
    rw [List.map_cons, List.map_cons] at h
    injection h with h1 h2
    have e : x = y := by cases x; cases y; congr 1; exact Array.toList_inj.1 h1
    rw [e, data_inj h2]

theorem wordsOf_line (f : Nat → Int) (es : List Int) : wordsOf (lineB f es) = lineWs f es := by
  apply data_inj
  rw [wordsOf_data]
  unfold lineB
  rw [List.toList_toArray]
  refine cutW_join (by simp [lineWs]) ?_
  intro w hw
  obtain ⟨x, hx, rfl⟩ := List.mem_map.1 hw
  exact lineWs_noBlank f es x hx

theorem line_of_words {s : ByteArray} {f : Nat → Int} {es : List Int} (h : wordsOf s = lineWs f es) : s = lineB f es := by
  have e := wordsOf_data s
  rw [h] at e
  have e2 := join_cutW s.data.toList
  rw [← e] at e2
  unfold lineB
  rw [e2]

theorem join_edges (x : List UInt8) : ∀ (es : List Int), Lib.join (x :: es.map (fun n => Lib.itoa n)) [32] = x ++ tailL es
  | [] => by simp [Lib.join, tailL]
  | n :: es => by
    rw [List.map_cons, join_cons (by simp), join_edges (Lib.itoa n) es]
    simp [tailL]

theorem lineB_eq (f : Nat → Int) (es : List Int) : lineB f es = ⟨(headL (f 0) (f 1) (f 2) (f 3) (f 4) (f 5) ++ tailL es).toArray⟩ := by
  have e : (lineWs f es).map (fun x => x.data.toList) = (nmB 0).data.toList :: Lib.itoa (f 0) :: (nmB 1).data.toList :: Lib.itoa (f 1) :: (nmB 2).data.toList :: Lib.itoa (f 2) :: (nmB 3).data.toList :: Lib.itoa (f 3) :: (nmB 4).data.toList :: Lib.itoa (f 4) :: (nmB 5).data.toList :: Lib.itoa (f 5) :: (nmB 6).data.toList :: es.map (fun n => Lib.itoa n) := by
    simp [lineWs, wordsA, dg, Function.comp_def]
  unfold lineB
  rw [e]
  simp only [join_cons (List.cons_ne_nil _ _), join_edges]
  congr 2
  unfold headL
  simp only [List.append_assoc]
  rfl

theorem lineB_inj {f g : Nat → Int} {es fs : List Int} (hf : ∀ k, k < 6 → I64 (f k)) (hg : ∀ k, k < 6 → I64 (g k)) (he : ∀ x ∈ es, I64 x) (hs : ∀ x ∈ fs, I64 x) (hn : es.length ≤ 64) (hm : fs.length ≤ 64)
    (h : lineB f es = lineB g fs) : (∀ j, j < 6 → f j = g j) ∧ es = fs := by
  have a := wordsOf_line f es
  rw [h, wordsOf_line g fs] at a
  have b := readS_line f hf es he hn
  rw [← a, readS_line g hg fs hs hm] at b
  injection b with b
  injection b with b1 b2
  refine ⟨fun j hj => ?_, b2.symm⟩
  have := congrFun b1 j
  simp only [trim, if_pos hj] at this
  exact this.symm
end Go.Proofs.YtmadabecpgjpjaaDoor
