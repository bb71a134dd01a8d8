/- tale.Read: the steps of a text. -/
import Derived.Test.YtmadabecpgjpjaaDoorIterL
import Derived.Test.YtmadabecpgjpjaaDoorTaleN
import Derived.Maps.AppendAt
namespace Go.Proofs.YtmadabecpgjpjaaDoor
open Go Go.RowKit Go.Shelf

/-- The step that a line is. -/
def stepT (s : ByteArray) : Option (Int × Int × Int) :=
  (([1, 2, 3, 4, 5, 6, 7] : List Int).find? (fitsT s)).map fun k => (k, readT (wordsOf s) (sizeT k) 0, readT (wordsOf s) (sizeT k) 1)
theorem stepT_some {s : ByteArray} {k : Int} (hk : isT k = true) (h : fitsT s k = true) : stepT s = some (k, readT (wordsOf s) (sizeT k) 0, readT (wordsOf s) (sizeT k) 1) := by
  unfold stepT
  have : ([1, 2, 3, 4, 5, 6, 7] : List Int).find? (fitsT s) = some k := by
    cases hf : ([1, 2, 3, 4, 5, 6, 7] : List Int).find? (fitsT s) with
    | none =>
      rw [List.find?_eq_none] at hf
      have hm : k ∈ ([1, 2, 3, 4, 5, 6, 7] : List Int) := by rcases isT_vals hk with rfl | rfl | rfl | rfl | rfl | rfl | rfl <;> simp
      exact absurd h (hf k hm)
    | some q =>
      have h1 := List.find?_some hf
      have h2 := List.mem_of_find?_eq_some hf
      have hq : isT q = true := by
        simp only [List.mem_cons, List.not_mem_nil, or_false] at h2
        rcases h2 with rfl | rfl | rfl | rfl | rfl | rfl | rfl <;> rfl
      rw [fits_only hq hk h1 h]
  rw [this]
  rfl
theorem stepT_none {s : ByteArray} (h : ∀ k : Int, isT k = true → fitsT s k = false) : stepT s = none := by
  unfold stepT
  rw [Option.map_eq_none_iff, List.find?_eq_none]
  intro k hk
  have hq : isT k = true := by
    simp only [List.mem_cons, List.not_mem_nil, or_false] at hk
    rcases hk with rfl | rfl | rfl | rfl | rfl | rfl | rfl <;> rfl
  simp [h k hq]
theorem stepT_inv {s : ByteArray} {t : Int × Int × Int} (h : stepT s = some t) : isT t.1 = true ∧ fitsT s t.1 = true ∧ t = (t.1, readT (wordsOf s) (sizeT t.1) 0, readT (wordsOf s) (sizeT t.1) 1) := by
  unfold stepT at h
  rw [Option.map_eq_some_iff] at h
  obtain ⟨k, hf, rfl⟩ := h
  have h1 := List.find?_some hf
  have h2 := List.mem_of_find?_eq_some hf
  refine ⟨?_, h1, rfl⟩
  simp only [List.mem_cons, List.not_mem_nil, or_false] at h2
  rcases h2 with rfl | rfl | rfl | rfl | rfl | rfl | rfl <;> rfl

theorem step_yes (s : ByteArray) (w : World) (hE : Env w) (hs : s.size ≤ 1048576) (k a b : Int) (h : stepT s = some (k, a, b)) :
    Calls Tryd.prog 13 #[.string s] w fun e w' => e = .returned (.tuple #[.agg #[.int .i64 k, .int .i64 a, .int .i64 b], .int .i64 0]) ∧ Below w.heap.size w w' := by
  refine (step_any s w hE hs).mono ?_
  rintro e w' ⟨hb, ⟨q, hq, hf, rfl⟩ | ⟨hn, rfl⟩⟩
  · rw [stepT_some hq hf] at h
    cases h
    exact ⟨rfl, hb⟩
  · rw [stepT_none hn] at h
    cases h
theorem step_no (s : ByteArray) (w : World) (hE : Env w) (hs : s.size ≤ 1048576) (h : stepT s = none) :
    Calls Tryd.prog 13 #[.string s] w fun e w' => e = .returned (.tuple #[.agg #[.int .i64 0, .int .i64 0, .int .i64 0], .int .i64 5]) ∧ Below w.heap.size w w' := by
  refine (step_any s w hE hs).mono ?_
  rintro e w' ⟨hb, ⟨q, hq, hf, rfl⟩ | ⟨hn, rfl⟩⟩
  · rw [stepT_some hq hf] at h
    cases h
  · exact ⟨rfl, hb⟩

/-- A line without its newline. -/
def trimL (l : List UInt8) : ByteArray := ⟨(Lib.trimSuffix l [10]).toArray⟩
theorem trimL_size (l : List UInt8) : (trimL l).size ≤ l.length := by
  show (Lib.trimSuffix l [10]).toArray.size ≤ _
  rw [List.size_toArray]
  unfold Lib.trimSuffix
  split
  · rw [List.length_take]; omega
  · omega
def cellsS (t : Int × Int × Int) : List Value := [.int .i64 t.1, .int .i64 t.2.1, .int .i64 t.2.2]
/-- The steps of some lines. -/
def gotL (ls : List (List UInt8)) : List (Int × Int × Int) := ls.filterMap fun l => stepT (trimL l)
def okL (ls : List (List UInt8)) : Prop := ∀ l ∈ ls, stepT (trimL l) ≠ none
def rawL (pre : List Ln) : List (List UInt8) := pre.map fun b => b.1.data.toList
theorem gotL_len (ls : List (List UInt8)) : (gotL ls).length ≤ ls.length := List.length_filterMap_le _ _
theorem gotL_ok : ∀ (ls : List (List UInt8)), okL ls → (gotL ls).length = ls.length
  | [], _ => rfl
  | l :: ls, h => by
    have h1 := h l (by simp)
    have h2 := gotL_ok ls (fun x hx => h x (by simp [hx]))
    unfold gotL at h2 ⊢
    cases ht : stepT (trimL l) with
    | none => exact absurd ht h1
    | some t => simp only [List.filterMap_cons, ht, List.length_cons, h2]
theorem gotL_snoc (ls : List (List UInt8)) (l : List UInt8) {t : Int × Int × Int} (h : stepT (trimL l) = some t) : gotL (ls ++ [l]) = gotL ls ++ [t] := by
  unfold gotL
  rw [List.filterMap_append]
  simp only [List.filterMap_cons, h, List.filterMap_nil]
/-- Blocks laid one behind the other. -/
def allocs (w : World) : List Obj → World
  | [] => w
  | o :: os => allocs (w.alloc o) os
theorem allocs_size (w : World) (os : List Obj) : (allocs w os).heap.size = w.heap.size + os.length := by
  induction os generalizing w with
  | nil => rfl
  | cons o os ih => rw [allocs, ih]; simp; omega
theorem allocs_below (w : World) (os : List Obj) {B : Nat} (h : B ≤ w.heap.size) : Below B w (allocs w os) := by
  induction os generalizing w with
  | nil => exact Below.refl _ _
  | cons o os ih => exact ((Below.refl _ w).alloc h o).trans (ih (w.alloc o) (by simp; omega))
theorem allocs_at (w : World) (os : List Obj) (i : Nat) (h : i < os.length) : (allocs w os).heap[w.heap.size + i]? = os[i]? := by
  induction os generalizing w i with
  | nil => simp at h
  | cons o os ih =>
    cases i with
    | zero =>
      have h1 := (allocs_below (w.alloc o) os (Nat.le_refl _)).block w.heap.size (by simp)
      exact h1.trans (World.alloc_heap_new w o)
    | succ i =>
      have := ih (w.alloc o) i (by simpa using h)
      rw [World.size_alloc, show w.heap.size + 1 + i = w.heap.size + (i + 1) by omega] at this
      exact this
theorem Tryd.info23 : (Tryd.prog.info? 23).map (fun i => (i.zero, i.size, i.bytes)) = some (some (.agg #[.int .i64 0, .int .i64 0, .int .i64 0]), 3, 24) := by kernel_rfl

attribute [local go_sem] Oper.semAt_some

theorem trim_any (s : ByteArray) (w : World) (hs : s.size ≤ 9223372036854775807) :
    Calls Tryd.prog 29 #[.string s, .string ⟨#[10]⟩] w fun e w' => e = .returned (.string (trimL s.data.toList)) ∧ w' = w := Tryd.strings_TrimSuffix s ⟨#[10]⟩ w hs
theorem keeps_below {W W' : World} (h : Below W.heap.size W W') : KeepsOthers W W' :=
  ⟨h.size, fun k _ hk _ => (h.block k (Array.getElem?_eq_some_iff.1 hk).1).trans hk⟩
theorem boxed_later {W W' : World} {b : Nat} {t : TypeId} {v : Value} (h : Boxed W b t v) (hb : Below W.heap.size W W') : Boxed W' b t v := (hb.block b h.lt).trans h
theorem ownsRow_later {W W' : World} {base : Nat} {e : TypeId} {size : Nat} {v : Value} {k : Nat} {xs : List Value} (h : W.ownsRow base e size v k xs) (hb : Below W.heap.size W W') : W'.ownsRow base e size v k xs := by
  obtain ⟨h1, h2⟩ := h
  refine ⟨h1, ?_⟩
  rcases h2 with h2 | ⟨g, cap, cur, hv, hg, hgb, hrest⟩
  · exact .inl h2
  · exact .inr ⟨g, cap, cur, hv, hg, (hb.block g (Array.getElem?_eq_some_iff.1 hgb).1).trans hgb, hrest⟩

theorem cells_new (w : World) (l : List Value) (t : TypeId) (j : Nat) (u : Value) (hj : l[j]? = some u) : (w.alloc (.cells l.toArray t)).cell? ((⟨w.heap.size, 0, none⟩ : Addr).add j) = some u := by
  have h := World.alloc_heap_new w (.cells l.toArray t)
  have e := Lib.cell_of_heap h j
  rw [show ((⟨w.heap.size, 0, none⟩ : Addr).add j) = ⟨w.heap.size, j, none⟩ by by_cases hj0 : j = 0 <;> simp [Addr.add, hj0], e, List.getElem?_toArray]
  exact hj
/-- Between two rounds. -/
def IT (B : Nat) (w : World) (pre : List Ln) (W : World) : Prop :=
  (∃ v, Boxed W (B + 4) 34 v ∧ W.ownsRow B 23 3 v (gotL (rawL pre)).length ((gotL (rawL pre)).flatMap cellsS) ∧ okL (rawL pre)) ∧
  (Boxed W B 34 (.slice none 0 0) ∧ Boxed W (B + 1) 3 (.int .i64 0) ∧ Boxed W (B + 2) 24 (.int .i64 0) ∧ ∃ u, Boxed W (B + 5) 9 u) ∧ Below B w W
/-- A line was no step. -/
def IxT (B : Nat) (w : World) (c : Code) (pre : List Ln) (W : World) : Prop :=
  (c = .ret ∧ ∃ (pr : List Ln) (x : Ln), pre = pr ++ [x] ∧ okL (rawL pr) ∧ stepT (trimL x.1.data.toList) = none) ∧
  (Boxed W B 34 (.slice none 0 0) ∧ Boxed W (B + 1) 3 (.int .i64 pre.length) ∧ Boxed W (B + 2) 24 (.int .i64 5)) ∧ Below B w W
theorem not_cells_ne {W : World} {B0 : Nat} {row : Option Nat} {b : Nat} {t : TypeId} {v : Value} (h : Boxed W b t v) (hr : ∀ r, row = some r → B0 ≤ r ∧ ∃ o : Obj, W.heap[r]? = some o ∧ o.isCells = false) : some b ≠ row := fun e => by
  obtain ⟨_, o, ho, hc⟩ := hr b e.symm
  rw [show W.heap[b]? = _ from h] at ho
  cases ho
  cases hc
theorem row_ne {W : World} {B0 : Nat} {row : Option Nat} {base : Nat} {e : TypeId} {size : Nat} {v : Value} {k : Nat} {xs : List Value} (h : W.ownsRow base e size v k xs) (hr : ∀ r, row = some r → B0 ≤ r ∧ ∃ o : Obj, W.heap[r]? = some o ∧ o.isCells = false) : v.ownBlock = none ∨ v.ownBlock ≠ row := by
  rcases h.2 with ⟨rfl, _⟩ | ⟨g, cap, cur, rfl, _, hgb, _⟩
  · exact .inl rfl
  · refine .inr fun e' => ?_
    obtain ⟨_, o, ho, hc⟩ := hr g (by simpa [Value.ownBlock] using e'.symm)
    rw [hgb] at ho; cases ho; cases hc
theorem IT.own {B B0 : Nat} {w : World} (hB : B ≤ w.heap.size) (h0 : B ≤ B0) : OwnFrom B0 (IT B w) := by
  rintro pre X Y row ⟨⟨v, hv, ho, hk⟩, ⟨h1, h2, h3, u, h4⟩, hb⟩ hg hr
  exact ⟨⟨v, hv.kept hg (not_cells_ne hv hr), ho.kept hg (row_ne ho hr), hk⟩, ⟨h1.kept hg (not_cells_ne h1 hr), h2.kept hg (not_cells_ne h2 hr), h3.kept hg (not_cells_ne h3 hr), u, h4.kept hg (not_cells_ne h4 hr)⟩,
    hb.grown hg (Nat.le_trans hB hb.size) (fun k e => Nat.le_trans h0 (hr k e).1)⟩
theorem IxT.own {B B0 : Nat} {w : World} (c : Code) (hB : B ≤ w.heap.size) (h0 : B ≤ B0) : OwnFrom B0 (IxT B w c) := by
  rintro pre X Y row ⟨hk, ⟨h1, h2, h3⟩, hb⟩ hg hr
  exact ⟨hk, ⟨h1.kept hg (not_cells_ne h1 hr), h2.kept hg (not_cells_ne h2 hr), h3.kept hg (not_cells_ne h3 hr)⟩,
    hb.grown hg (Nat.le_trans hB hb.size) (fun k e => Nat.le_trans h0 (hr k e).1)⟩
theorem IT.set {B : Nat} {w W : World} {pre : List Ln} (v' : Value) (h : IT B w pre W) : IT B w pre (W.setCell ⟨B + 5, 0, none⟩ v') := by
  obtain ⟨⟨v, hv, ho, hk⟩, ⟨h1, h2, h3, u, h4⟩, hb⟩ := h
  exact ⟨⟨v, hv.other (by omega) _, ho.kept (grownBy_setCell' W _ v') (.inr (h4.not_row (by decide) ho).symm), hk⟩, ⟨h1.other (by omega) _, h2.other (by omega) _, h3.other (by omega) _, v', h4.set v'⟩, hb.setCell (p := ⟨B + 5, 0, none⟩) (by simp) _⟩
theorem IxT.set {B : Nat} {w W : World} {c : Code} {pre : List Ln} (v' : Value) (h : IxT B w c pre W) : IxT B w c pre (W.setCell ⟨B + 5, 0, none⟩ v') := by
  obtain ⟨hk, ⟨h1, h2, h3⟩, hb⟩ := h
  exact ⟨hk, ⟨h1.other (by omega) _, h2.other (by omega) _, h3.other (by omega) _⟩, hb.setCell (p := ⟨B + 5, 0, none⟩) (by simp) _⟩

theorem boxed_drew {W : World} {b : Nat} {t : TypeId} {v : Value} (h : Boxed W b t v) : Boxed W.drew b t v := h
theorem below_drew1 {B : Nat} {A W : World} (h : Below B A W) : Below B A W.drew := ⟨h.os, h.tape, h.output, h.size, h.block⟩
theorem bad_end {B N : Nat} {w W w2 : World} {pre : List Ln} {x : Ln} (hB : Below B w W) (hBw : B ≤ W.heap.size) (hb2 : Below W.heap.size W w2) (hok : okL (rawL pre)) (hN : N = pre.length)
    (hst : stepT (trimL x.1.data.toList) = none) (g1 : Boxed w2 B 34 (.slice none 0 0)) (g2 : Boxed w2 (B + 1) 3 (.int .i64 0)) (g3 : Boxed w2 (B + 2) 24 (.int .i64 0)) :
    KeepsOthers W (((w2.setCell ⟨B, 0, none⟩ (.slice none 0 0)).setCell ⟨B + 1, 0, none⟩ (.int .i64 ((N : Int) + 1))).setCell ⟨B + 1 + 1, 0, none⟩ (.int .i64 5)).drew ∧
    IxT B w .ret (pre ++ [x]) (((w2.setCell ⟨B, 0, none⟩ (.slice none 0 0)).setCell ⟨B + 1, 0, none⟩ (.int .i64 ((N : Int) + 1))).setCell ⟨B + 1 + 1, 0, none⟩ (.int .i64 5)).drew := by
  refine ⟨((((keeps_below hb2).trans (KeepsOthers.setCell _ _ _)).trans (KeepsOthers.setCell _ _ _)).trans (KeepsOthers.setCell _ _ _)).trans (KeepsOthers.drew _), ⟨rfl, pre, x, rfl, hok, hst⟩, ⟨?_, ?_, ?_⟩, ?_⟩
  · exact boxed_drew (((g1.set _).other (by omega) _).other (by omega) _)
  · have e : (Value.int .i64 (pre ++ [x]).length : Value) = .int .i64 ((N : Int) + 1) := by rw [hN]; simp
    rw [e]
    exact boxed_drew (((g2.other (by omega) _).set _).other (by omega) _)
  · exact boxed_drew (((g3.other (by omega) _).other (by omega) _).set _)
  · exact below_drew1 ((((hB.trans (hb2.mono hBw)).setCell (p := ⟨B, 0, none⟩) (Nat.le_refl _) _).setCell (p := ⟨B + 1, 0, none⟩) (by simp) _).setCell (p := ⟨B + 1 + 1, 0, none⟩) (by simp; omega) _)

theorem good_end {B N : Nat} {w W W3 w1 : World} {pre : List Ln} {x : Ln} {v v' u : Value} {st : Int × Int × Int} {tmp : Obj} (hB : Below B w W) (hBw : B ≤ W.heap.size) (hb3 : Below W.heap.size W W3) (hok : okL (rawL pre))
    (hst : stepT (trimL x.1.data.toList) = some st) (hN : N = (gotL (rawL pre)).length) (hv : Boxed W (B + 4) 34 v) (hrow : W.ownsRow B 23 3 v N ((gotL (rawL pre)).flatMap cellsS))
    (h1 : Boxed W B 34 (.slice none 0 0)) (h2 : Boxed W (B + 1) 3 (.int .i64 0)) (h3 : Boxed W (B + 2) 24 (.int .i64 0)) (h4 : Boxed W (B + 5) 9 u)
    (hown : w1.ownsRow B 23 3 v' (N + 1) ((gotL (rawL pre)).flatMap cellsS ++ cellsS st)) (hgrow : (W3.alloc tmp).grownBy w1 v.ownBlock) :
    Boxed w1 (B + 4) 34 v ∧ KeepsOthers W (w1.setCell ⟨B + 4, 0, none⟩ v') ∧ KpC (B + 5) W (w1.setCell ⟨B + 4, 0, none⟩ v') ∧ IT B w (pre ++ [x]) (w1.setCell ⟨B + 4, 0, none⟩ v') := by
  have r3 := ownsRow_later hrow hb3
  have v3 := boxed_later hv hb3
  obtain ⟨e1, e2, e3, e4, e5⟩ := v3.appended (by decide) r3 (Nat.le_trans hBw hb3.size) (by omega : B ≤ B + 4) hown hgrow
  have keep : ∀ {b : Nat} {t : TypeId} {y : Value}, Boxed W b t y → t ≠ 23 → b ≠ B + 4 → Boxed (w1.setCell ⟨B + 4, 0, none⟩ v') b t y := fun hb ht hne =>
    (((boxed_later hb hb3).alloc tmp).kept hgrow (((boxed_later hb hb3)).not_row ht r3)).other hne _
  refine ⟨e1, (keeps_below hb3).trans e4, ⟨Nat.le_trans hb3.size e4.size, ?_⟩, ⟨v', e2, ?_, ?_⟩, ⟨keep h1 (by decide) (by omega), keep h2 (by decide) (by omega), keep h3 (by decide) (by omega), u, keep h4 (by decide) (by omega)⟩, hB.trans ((hb3.mono hBw).trans e5)⟩
  · exact (show _ = _ from keep h4 (by decide) (by omega)).trans (show _ = _ from h4).symm
  · have e : gotL (rawL (pre ++ [x])) = gotL (rawL pre) ++ [st] := by
      rw [show rawL (pre ++ [x]) = rawL pre ++ [x.1.data.toList] by simp [rawL]]
      exact gotL_snoc _ _ hst
    rw [e, List.length_append, ← hN, List.flatMap_append]
    simpa using e3
  · intro y hy
    rw [show rawL (pre ++ [x]) = rawL pre ++ [x.1.data.toList] by simp [rawL], List.mem_append] at hy
    rcases hy with hy | hy
    · exact hok y hy
    · rw [List.mem_singleton] at hy
      rw [hy, hst]
      exact fun h => by cases h

theorem boxed_put {W : World} {b D : Nat} {t : TypeId} {v : Value} (o : Obj) (h : Boxed W b t v) (hne : b ≠ D) : Boxed (W.putObj D o) b t v := (World.putObj_heap_other hne).trans h
theorem below_put {B D : Nat} {A W : World} (o : Obj) (h : Below B A W) (hD : B ≤ D) (hA : B ≤ A.heap.size) : Below B A (W.putObj D o) := h.grown (grownBy_putObj' W D o) (Nat.le_trans hA h.size) (fun k e => by cases e; exact hD)

set_option maxRecDepth 100000 in
set_option maxHeartbeats 4000000 in
theorem tread_few (s : ByteArray) (w : World) (hE : Env w) (hs : s.size ≤ 131072) :
    Calls Tryd.prog 14 #[.string s] w fun e w' => Below w.heap.size w w' ∧
      ((∃ pr x rest, linesL s.data.toList = pr ++ x :: rest ∧ okL pr ∧ stepT (trimL x) = none ∧ e = .returned (.tuple #[.slice none 0 0, .int .i64 (pr.length + 1 : Nat), .int .i64 5])) ∨
       (okL (linesL s.data.toList) ∧ 4096 < (linesL s.data.toList).length ∧ e = .returned (.tuple #[.slice none 0 0, .int .i64 0, .int .i64 6])) ∨
       (okL (linesL s.data.toList) ∧ (linesL s.data.toList).length ≤ 4096 ∧ ∃ v, e = .returned (.tuple #[v, .int .i64 0, .int .i64 0]) ∧ w'.ownsRow w.heap.size 23 3 v (gotL (linesL s.data.toList)).length ((gotL (linesL s.data.toList)).flatMap cellsS))) := by
  obtain ⟨i0, hi, hz0, hz1, hz2⟩ := info_parts Tryd.info23
  have hmix : Tryd.prog.follows Departure.mixedOrders = true := by kernel_rfl
  refine (callsIn_wide (n := 6)).1 ?_
  refine callsIn_of_wp_marks Tryd.func14 rfl trivial ?_ rfl
  simp only [Tryd.ntmps14, List.size_toArray, List.length_cons, List.length_nil, Nat.reduceAdd, Nat.reduceSub, Array.replicate_succ, Array.replicate_zero, List.push_toArray, List.append_toArray, List.nil_append, List.cons_append]
  have hd : decide ((131072 : Int) < (s.size : Int)) = false := by simp; omega
  gi_wp2_with (refine ⟨trivial, ?_⟩; gi_at_call 28; refine (Tryd.lines_in Fence.wide _ trivial rfl s _).mono ?_; rintro e w' ⟨rfl, rfl⟩)
  generalize hW0 : World.alloc _ _ = W0
  have q0 : Boxed W0 (w.heap.size + 4) 34 (.slice (some ⟨w.heap.size + 3, 0, none⟩) 0 0) ∧ W0.heap[w.heap.size + 3]? = some (.cells #[] 23 (0, 0)) ∧ Boxed W0 w.heap.size 34 (.slice none 0 0) ∧ Boxed W0 (w.heap.size + 1) 3 (.int .i64 0) ∧ Boxed W0 (w.heap.size + 2) 24 (.int .i64 0) ∧ Boxed W0 (w.heap.size + 5) 9 (.string s) ∧ W0.heap.size = w.heap.size + 6 ∧ Below w.heap.size w W0 := by
    have hA := fun i h => allocs_at w [.cells #[.slice none 0 0] 34, .cells #[.int .i64 0] 3, .cells #[.int .i64 0] 24, .cells #[] 23, .cells #[.slice (some ⟨w.heap.size + 1 + 1 + 1, 0, none⟩) 0 0] 34, .cells #[.string s] 9] i h
    have hZ := allocs_size w [.cells #[.slice none 0 0] 34, .cells #[.int .i64 0] 3, .cells #[.int .i64 0] 24, .cells #[] 23, .cells #[.slice (some ⟨w.heap.size + 1 + 1 + 1, 0, none⟩) 0 0] 34, .cells #[.string s] 9]
    have hL := allocs_below w [.cells #[.slice none 0 0] 34, .cells #[.int .i64 0] 3, .cells #[.int .i64 0] 24, .cells #[] 23, .cells #[.slice (some ⟨w.heap.size + 1 + 1 + 1, 0, none⟩) 0 0] 34, .cells #[.string s] 9] (Nat.le_refl _)
    have hW0' : allocs w [.cells #[.slice none 0 0] 34, .cells #[.int .i64 0] 3, .cells #[.int .i64 0] 24, .cells #[] 23, .cells #[.slice (some ⟨w.heap.size + 1 + 1 + 1, 0, none⟩) 0 0] 34, .cells #[.string s] 9] = W0 := hW0
    rw [hW0'] at hA hZ hL
    exact ⟨hA 4 (by simp), hA 3 (by simp), hA 0 (by simp), hA 1 (by simp), hA 2 (by simp), hA 5 (by simp), hZ, hL⟩
  obtain ⟨b4, b3, b0, b1, b2, b5, hsz, hB0⟩ := q0
  clear hW0
  refine range_cell (F := Fence.wide) rfl (by omega) (gf := 45) (lb := #[.pointer (some ⟨w.heap.size + 5, 0, none⟩)]) rfl trivial (enters_of Tryd.func45 (by kernel_rfl) rfl) (Bn := w.heap.size + 5) (by omega)
    (Tryd.lines_seq _ (w.heap.size + 5) (by omega) s hs W0 b5) (fun h k => KpC.trans h k) (fun W l o o' hl h _ _ => ⟨by simp [World.putObj], World.putObj_heap_other (by omega)⟩) (Below.refl _ _) (fun _ => rfl)
    (IT w.heap.size w) (IxT w.heap.size w) (IT.own (by omega) (by omega)) (fun c => IxT.own c (by omega) (by omega)) (fun _ _ v h => h.set v) (fun _ _ _ v h => h.set v)
    ⟨⟨_, b4, ?own0, fun l hl => by cases hl⟩, ⟨b0, b1, b2, _, b5⟩, hB0⟩
    (fun x => { tmps := #[.string s, undef, .pointer (some ⟨w.heap.size, 0, none⟩), .pointer (some ⟨w.heap.size + 1, 0, none⟩), .pointer (some ⟨w.heap.size + 1 + 1, 0, none⟩), .pointer (some ⟨w.heap.size + 1 + 1 + 1 + 1, 0, none⟩), .string x.1, undef, undef, .string s,
          .int .i64 s.size, .bool false, .slice (some ⟨w.heap.size + 1 + 1 + 1, 0, none⟩) 0 0, .string s, .func (.func 45) #[] #[.pointer (some ⟨w.heap.size + 1 + 1 + 1 + 1 + 1, 0, none⟩)], .string x.1,
          undef, undef, undef, undef, undef, undef, undef, undef, undef, undef, undef, undef, undef, undef, undef, undef, undef, undef, undef, undef], defers := [] }) ?assign ?body ?done ?stop
  case own0 =>
    have e0 : gotL (rawL []) = [] := rfl
    rw [e0]
    exact ⟨rfl, .inr ⟨w.heap.size + 3, 0, #[], rfl, by omega, b3, Nat.le_refl _, by unfold maxLen; omega, rfl, rfl⟩⟩
  case assign =>
    intro l x W K hK
    gi_wp2
    exact hK
  case body =>
    rintro l pre x W ⟨⟨v, hv, hrow, hok⟩, ⟨h1, h2, h3, u, h4⟩, hB⟩ hlt
    have hEW : Env W := hE.below hB hE.size
    obtain ⟨N, hN⟩ : ∃ N, N = (gotL (rawL pre)).length := ⟨_, rfl⟩
    have hNp : N = pre.length := by rw [hN, gotL_ok _ hok]; simp [rawL]
    rw [← hN] at hrow
    obtain ⟨ao, cap, rfl⟩ : ∃ ao cap, v = .slice ao N cap := by
      rcases hrow.2 with ⟨rfl, h0⟩ | ⟨g, cap, _, rfl, _⟩
      · exact ⟨_, _, by rw [h0]⟩
      · exact ⟨_, _, rfl⟩
    have hN1 : N < 131072 := by omega
    have HN := Lib.hid hN
    have HNp := Lib.hid hNp
    clear hN hNp
    have hx := x.2
    have hts := trimL_size x.1.data.toList
    have hxl : x.1.data.toList.length = x.1.size := Array.length_toList
    obtain ⟨T, HT⟩ : ∃ T, Hid (T = trimL x.1.data.toList) := ⟨_, Lib.hid rfl⟩
    have hT : T.size ≤ 131072 := by rw [HT.out]; omega
    have HTr := Lib.hid (trim_any x.1 W (by omega))
    rw [← HT.out] at HTr
    clear hts hxl
    rcases hst : stepT T with _ | ⟨k, a, b⟩
    · have HS := Lib.hid (step_no T W hEW (by omega) hst)
      have Hst := Lib.hid hst
      clear hst
      gi_wp2_with (first
        | (refine ⟨trivial, ?_⟩; gi_at_call 29; refine (CallsIn.inRound l (callsIn_wide.2 HTr.out)).mono ?_; rintro e w' ⟨rfl, rfl⟩)
        | (refine ⟨trivial, ?_⟩; gi_at_call 13; refine (CallsIn.inRound l (callsIn_wide.2 HS.out)).mono ?_; rintro e w1 ⟨rfl, hb1⟩))
      generalize hw2 : World.alloc _ _ = w2
      have hb2 : Below w'.heap.size w' w2 := by rw [← hw2]; exact hb1.alloc hb1.size _
      clear hw2 hb1
      have g1 := boxed_later h1 hb2
      have g2 := boxed_later h2 hb2
      have g3 := boxed_later h3 hb2
      have gv := boxed_later hv hb2
      have g1c := g1.cell
      have g1f := g1.frozen
      have g2c := g2.cell
      have g2f := g2.frozen
      have g3c := g3.cell
      have g3f := g3.frozen
      have gvc := gv.cell
      have hwr : IntKind.i64.wrap ((N : Int) + 1) = (N : Int) + 1 := IntWalk.i64_in _ (by omega)
      have hBw : w.heap.size ≤ w'.heap.size := hB.size
      have HE := bad_end (x := x) hB hBw hb2 hok HNp.out (by rw [← HT.out]; exact Hst.out) g1 g2 g3
      gi_region_with_o (fail)
      all_goals (gi_wp2; exact HE)
    · have HS := Lib.hid (step_yes T W hEW (by omega) k a b hst)
      have Hst := Lib.hid hst
      clear hst
      gi_wp2_with (first
        | (refine ⟨trivial, ?_⟩; gi_at_call 29; refine (CallsIn.inRound l (callsIn_wide.2 HTr.out)).mono ?_; rintro e w' ⟨rfl, rfl⟩)
        | (refine ⟨trivial, ?_⟩; gi_at_call 13; refine (CallsIn.inRound l (callsIn_wide.2 HS.out)).mono ?_; rintro e w1 ⟨rfl, hb1⟩; have hb3 := hb1.alloc hb1.size (.cells #[.int .i64 k, .int .i64 a, .int .i64 b] 23); have gvc := (boxed_later hv hb3).cell; have hrow3 := ownsRow_later hrow hb3; have hcn := cells_new (w1.alloc (.cells #[.int .i64 k, .int .i64 a, .int .i64 b] 23)) [.int .i64 k, .int .i64 a, .int .i64 b] 23; rw [World.size_alloc] at hcn; have HCN := Lib.hid hcn; clear hcn; have hz3 := hb3.size; rw [World.size_alloc] at hz3)
        | (gi_at_builtin; refine wpListIn_append_own _ rfl _ _ 34 rfl w.heap.size 23 i0 (.agg #[.int .i64 0, .int .i64 0, .int .i64 0]) 3 24 Tryd.underlying34 hi hz0 hz1 hz2 rfl (by decide) _ _ _ rfl (hrow3.alloc _) ⟨w1.heap.size + 1, 0, none⟩ 1 1 [.int .i64 k, .int .i64 a, .int .i64 b] rfl rfl HCN.out (by simp [Value.oneCell']) (by unfold maxLen; omega) (by omega) (by have := hB.size; simp; omega) ?_; intro v' w4 hown' hgrow _; obtain ⟨g', cap', rfl⟩ := ownsRow_succ hown'; obtain ⟨e1, e2⟩ := good_end hB hB.size hb3 hok (by rw [← HT.out]; exact Hst.out) HN.out hv hrow h1 h2 h3 h4 hown' hgrow; have hc1 := e1.cell; have hf1 := e1.frozen; have HE := Lib.hid e2; clear e1 e2))
      exact HE.out
  case done =>
    rintro D xs W hD hS ⟨⟨v, hv, hrow, hok⟩, ⟨h1, h2, h3, u, h4⟩, hB⟩ hK
    have hrl : rawL xs = linesL s.data.toList := hS
    rw [hrl] at hrow hok
    have hlen := gotL_ok _ hok
    have hll := linesL_len _ s.data.toList (Nat.le_refl _)
    have hsl : s.data.toList.length = s.size := Array.length_toList
    obtain ⟨N, hN⟩ : ∃ N, N = (linesL s.data.toList).length := ⟨_, rfl⟩
    rw [hlen, ← hN] at hrow
    obtain ⟨ao, cap, rfl⟩ : ∃ ao cap, v = .slice ao N cap := by
      rcases hrow.2 with ⟨rfl, h0⟩ | ⟨g, cap, _, rfl, _⟩
      · exact ⟨_, _, by rw [h0]⟩
      · exact ⟨_, _, rfl⟩
    have hN1 : N ≤ 131072 := by omega
    have HN := Lib.hid hN
    have HL := Lib.hid hlen
    clear hS hrl hlen hll hsl hN
    have c0 := h1.cell
    have f0 := h1.frozen
    have c1 := h2.cell
    have f1 := h2.frozen
    have c2 := h3.cell
    have f2 := h3.frozen
    have c4 := hv.cell
    by_cases h96 : 4096 < N
    · have hd : decide ((4096 : Int) < (N : Int)) = true := by simp; omega
      gi_wp2
      have k0 := ((h1.set (.slice none 0 0)).other (show w.heap.size ≠ w.heap.size + 1 by omega) (.int .i64 0)).other (show w.heap.size ≠ w.heap.size + 1 + 1 by omega) (.int .i64 6)
      have k1 := ((h2.other (show w.heap.size + 1 ≠ w.heap.size by omega) (.slice none 0 0)).set (.int .i64 0)).other (show w.heap.size + 1 ≠ w.heap.size + 1 + 1 by omega) (.int .i64 6)
      have k2 := ((h3.other (show w.heap.size + 2 ≠ w.heap.size by omega) (.slice none 0 0)).other (show w.heap.size + 2 ≠ w.heap.size + 1 by omega) (.int .i64 0)).set (.int .i64 6)
      have hK' := (((KeepsOthers.setCell W ⟨w.heap.size, 0, none⟩ (.slice none 0 0)).trans (KeepsOthers.setCell _ ⟨w.heap.size + 1, 0, none⟩ (.int .i64 0))).trans (KeepsOthers.setCell _ ⟨w.heap.size + 1 + 1, 0, none⟩ (.int .i64 6))).same D _ hK rfl
      have hB3 := ((hB.setCell (p := ⟨w.heap.size, 0, none⟩) (Nat.le_refl _) (.slice none 0 0)).setCell (p := ⟨w.heap.size + 1, 0, none⟩) (by simp) (.int .i64 0)).setCell (p := ⟨w.heap.size + 1 + 1, 0, none⟩) (by simp; omega) (.int .i64 6)
      refine ⟨by simp, .inl ⟨_, _, rfl, run_takeDeferred hK', ?_⟩⟩
      refine ⟨.tuple #[.slice none 0 0, .int .i64 0, .int .i64 6], ?_, below_put _ hB3 (by omega) (Nat.le_refl _), .inr (.inl ⟨hok, by rw [← HN.out]; exact h96, rfl⟩)⟩
      have z0 := (boxed_put (D := D) (.deferred none) k0 (by omega)).cell
      have z1 := (boxed_put (D := D) (.deferred none) k1 (by omega)).cell
      have z2 := (boxed_put (D := D) (.deferred none) k2 (by omega)).cell
      simp [results, Tryd.results14, go_sem, z0, z1, z2]
    · have hd : decide ((4096 : Int) < (N : Int)) = false := by simp; omega
      gi_wp2
      have k0 := ((h1.set (.slice ao N cap)).other (show w.heap.size ≠ w.heap.size + 1 by omega) (.int .i64 0)).other (show w.heap.size ≠ w.heap.size + 1 + 1 by omega) (.int .i64 0)
      have k1 := ((h2.other (show w.heap.size + 1 ≠ w.heap.size by omega) (.slice ao N cap)).set (.int .i64 0)).other (show w.heap.size + 1 ≠ w.heap.size + 1 + 1 by omega) (.int .i64 0)
      have k2 := ((h3.other (show w.heap.size + 2 ≠ w.heap.size by omega) (.slice ao N cap)).other (show w.heap.size + 2 ≠ w.heap.size + 1 by omega) (.int .i64 0)).set (.int .i64 0)
      have hK' := (((KeepsOthers.setCell W ⟨w.heap.size, 0, none⟩ (.slice ao N cap)).trans (KeepsOthers.setCell _ ⟨w.heap.size + 1, 0, none⟩ (.int .i64 0))).trans (KeepsOthers.setCell _ ⟨w.heap.size + 1 + 1, 0, none⟩ (.int .i64 0))).same D _ hK rfl
      have hB3 := ((hB.setCell (p := ⟨w.heap.size, 0, none⟩) (Nat.le_refl _) (.slice ao N cap)).setCell (p := ⟨w.heap.size + 1, 0, none⟩) (by simp) (.int .i64 0)).setCell (p := ⟨w.heap.size + 1 + 1, 0, none⟩) (by simp; omega) (.int .i64 0)
      have o1 := hrow.kept (grownBy_setCell' W w.heap.size (.slice ao N cap)) (.inr (h1.not_row (by decide) hrow).symm)
      have o2 := o1.kept (grownBy_setCell' _ (w.heap.size + 1) (.int .i64 0)) (.inr ((h2.other (show w.heap.size + 1 ≠ w.heap.size by omega) (.slice ao N cap)).not_row (by decide) o1).symm)
      have o3 := o2.kept (grownBy_setCell' _ (w.heap.size + 1 + 1) (.int .i64 0)) (.inr (((h3.other (show w.heap.size + 2 ≠ w.heap.size by omega) (.slice ao N cap)).other (show w.heap.size + 2 ≠ w.heap.size + 1 by omega) (.int .i64 0)).not_row (by decide) o2).symm)
      refine ⟨by simp, .inl ⟨_, _, rfl, run_takeDeferred hK', ?_⟩⟩
      refine ⟨.tuple #[.slice ao N cap, .int .i64 0, .int .i64 0], ?_, below_put _ hB3 (by omega) (Nat.le_refl _), .inr (.inr ⟨hok, by rw [← HN.out]; omega, _, rfl, ?_⟩)⟩
      · have z0 := (boxed_put (D := D) (.deferred none) k0 (by omega)).cell
        have z1 := (boxed_put (D := D) (.deferred none) k1 (by omega)).cell
        have z2 := (boxed_put (D := D) (.deferred none) k2 (by omega)).cell
        simp [results, Tryd.results14, go_sem, z0, z1, z2]
      · rw [HL.out, ← HN.out]
        exact ownsRow_putObj o3 _ hK' rfl
  case stop =>
    rintro D c pre W hD hpre ⟨⟨rfl, pr, x, hpx, hok, hst⟩, ⟨h1, h2, h3⟩, hB⟩ hK
    have HP := Lib.hid hpre
    have HPX := Lib.hid hpx
    have HST := Lib.hid hst
    clear hpre hpx hst
    gi_wp2
    refine ⟨by simp, .inl ⟨_, _, rfl, run_takeDeferred hK, ?_⟩⟩
    refine ⟨.tuple #[.slice none 0 0, .int .i64 pre.length, .int .i64 5], ?_, below_put _ hB (by omega) (Nat.le_refl _), .inl ?_⟩
    · have z0 := (boxed_put (D := D) (.deferred none) h1 (by omega)).cell
      have z1 := (boxed_put (D := D) (.deferred none) h2 (by omega)).cell
      have z2 := (boxed_put (D := D) (.deferred none) h3 (by omega)).cell
      simp [results, Tryd.results14, go_sem, z0, z1, z2]
    · obtain ⟨rest, hr⟩ := HP.out
      rw [HPX.out] at hr ⊢
      exact ⟨rawL pr, x.1.data.toList, rest, by rw [← hr]; simp [rawL], hok, HST.out, by simp [rawL]⟩

set_option maxRecDepth 100000 in
set_option maxHeartbeats 1000000 in
theorem tread_long (s : ByteArray) (w : World) (hs : 131072 < s.size) :
    Calls Tryd.prog 14 #[.string s] w fun e w' => e = .returned (.tuple #[.slice none 0 0, .int .i64 0, .int .i64 6]) ∧ Below w.heap.size w w' := by
  have hd : decide ((131072 : Int) < (s.size : Int)) = true := by simp; omega
  go_enter Tryd.func14, Tryd.ntmps14
  go_wp2
  refine bodyPost_ret (v := .tuple #[.slice none 0 0, .int .i64 0, .int .i64 6]) (by simp [results, Tryd.results14, go_sem]) rfl ?_
  exact ⟨rfl, (((Below.refl _ w).alloc (Nat.le_refl _) _).alloc (by simp) _).alloc (by simp; omega) _⟩
end Go.Proofs.YtmadabecpgjpjaaDoor
