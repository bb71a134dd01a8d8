/- deed.Read. -/
import Derived.Test.YtmadabecpgjpjaaDoorDeedR
import Derived.Deep.RegionHeld3
import Derived.Deep.LoopGhost
import Derived.Test.YtmadabecpgjpjaaDoorHold
import Derived.Deep.AppendLies
namespace Go.Proofs.YtmadabecpgjpjaaDoor
open Go.RowKit

theorem far {w w' : World} {r : Nat} (h : w.grownBy w' (some r)) {p : Addr} (hp : p.block < w.heap.size) (hne : p.block ≠ r) : w'.cell? p = w.cell? p :=
  World.cell?_of_block (w := w) (h.block p.block hp (fun e => hne (by injection e with e)))

theorem cell_set_ne {w : World} {b b' i j : Nat} (h : b' ≠ b) (v : Value) : (w.setCell ⟨b, i, none⟩ v).cell? ⟨b', j, none⟩ = w.cell? ⟨b', j, none⟩ :=
  World.cell?_of_block (w := w) (heap_set_ne h v)

/-- What deed.Read has after k words: the numbers, the words that are left, whether it is bad. -/
def stS (xs : List ByteArray) : Nat → (Nat → Int) × List ByteArray × Bool
  | 0 => (fun _ => 0, xs, false)
  | k + 1 =>
    let s := stS xs k
    let a := wordS (nmB k) s.2.1 s.2.2
    let n := numberS a.1 a.2
    (fun j => if j = k then n.1 else s.1 j, n.2.1, n.2.2)

/-- The blocks of deed.Read, from B on: the result, the words, the reader, what is read, the fields. -/
structure RD (B : Nat) (w0 wr : World) (f : Nat → Int) (v : Value) (xs : List ByteArray) (bad : Bool) : Prop where
  below : Below B w0 wr
  size : B + 5 ≤ wr.heap.size
  res : wr.heap[B]? = some (.cells (scells (fun _ => 0) (.slice none 0 0)) 41 (0, 0))
  rs : RS wr (B + 2) (B + 1) xs bad
  out : wr.heap[B + 3]? = some (.cells (scells f v) 41 (0, 0))
  fld : wr.heap[B + 4]? = some (.cells (fcells (B + 3)) 72 (0, 0))

/-- A step of the reader, or new blocks. -/
theorem RD.step {B : Nat} {w0 w1 w2 : World} {f : Nat → Int} {v : Value} {xs ys : List ByteArray} {bad b2 : Bool} (h : RD B w0 w1 f v xs bad) (hg : w1.grownBy w2 (some (B + 2))) (hr : RS w2 (B + 2) (B + 1) ys b2) : RD B w0 w2 f v ys b2 :=
  ⟨h.below.grown hg (by have := h.size; omega) (fun k e => by injection e with e; omega),
    Nat.le_trans h.size hg.size,
    (hg.block B (by have := h.size; omega) (by intro e; injection e with e; omega)).trans h.res,
    hr,
    (hg.block (B + 3) (by have := h.size; omega) (by intro e; injection e with e; omega)).trans h.out,
    (hg.block (B + 4) (by have := h.size; omega) (by intro e; injection e with e; omega)).trans h.fld⟩
theorem RD.more {B : Nat} {w0 w1 w2 : World} {f : Nat → Int} {v : Value} {xs : List ByteArray} {bad : Bool} (h : RD B w0 w1 f v xs bad) (hb : Below w1.heap.size w1 w2) : RD B w0 w2 f v xs bad :=
  h.step (grown_of_below hb _) (h.rs.below hb (by have := h.size; omega))
theorem scells_set (f : Nat → Int) (v : Value) (k : Nat) (hk : k < 6) (n : Int) : (scells f v).setIfInBounds k (.int .i64 n) = scells (fun j => if j = k then n else f j) v := by
  match k, hk with
  | 0, _ => rfl
  | 1, _ => rfl
  | 2, _ => rfl
  | 3, _ => rfl
  | 4, _ => rfl
  | 5, _ => rfl
theorem RD.num {B : Nat} {w0 w1 : World} {f : Nat → Int} {v : Value} {xs : List ByteArray} {bad : Bool} (h : RD B w0 w1 f v xs bad) (k : Nat) (hk : k < 6) (n : Int) : RD B w0 (w1.setCell ⟨B + 3, k, none⟩ (.int .i64 n)) (fun j => if j = k then n else f j) v xs bad :=
  ⟨h.below.setCell (p := ⟨B + 3, k, none⟩) (by show B ≤ B + 3; omega) _,
    Nat.le_trans h.size (grown_set w1 (B + 3) k (.int .i64 n)).size,
    (heap_set_ne (by omega) _).trans h.res,
    (by obtain ⟨hne, v2, hr, hl⟩ := h.rs; exact ⟨hne, v2, (heap_set_ne (by omega) _).trans hr, hl.of_same (heap_set_ne (by omega) _)⟩),
    (by rw [heap_set h.out, scells_set f v k hk]),
    (heap_set_ne (by omega) _).trans h.fld⟩

/-- The edges that are read: the numbers, whether it is bad. -/
def edgesS : List ByteArray → Bool → List Int × Bool
  | [], b => ([], b)
  | _ :: _, true => ([], true)
  | x :: r, false => ((numberS (x :: r) false).1 :: (edgesS r (numberS (x :: r) false).2.2).1, (edgesS r (numberS (x :: r) false).2.2).2)
theorem Tryd.info3 : (Tryd.prog.info? 3).map (fun i => (i.zero, i.size, i.bytes)) = some (some (.int .i64 0), 1, 8) := by kernel_rfl
theorem RD.slice {B : Nat} {w0 w1 : World} {f : Nat → Int} {v : Value} {xs : List ByteArray} {bad : Bool} (h : RD B w0 w1 f v xs bad) (u : Value) : RD B w0 (w1.setCell ⟨B + 3, 6, none⟩ u) f u xs bad :=
  ⟨h.below.setCell (p := ⟨B + 3, 6, none⟩) (by show B ≤ B + 3; omega) _,
    Nat.le_trans h.size (grown_set w1 (B + 3) 6 u).size,
    (heap_set_ne (by omega) _).trans h.res,
    (by obtain ⟨hne, v2, hr, hl⟩ := h.rs; exact ⟨hne, v2, (heap_set_ne (by omega) _).trans hr, hl.of_same (heap_set_ne (by omega) _)⟩),
    (by rw [heap_set h.out]; rfl),
    (heap_set_ne (by omega) _).trans h.fld⟩

theorem RD.own {B : Nat} {w0 w1 w2 : World} {f : Nat → Int} {v : Value} {xs : List ByteArray} {bad : Bool} {r : Option Nat} (h : RD B w0 w1 f v xs bad) (hg : w1.grownBy w2 r) (hr : ∀ k, r = some k → B + 5 ≤ k) : RD B w0 w2 f v xs bad := by
  have hz := h.size
  have hk : ∀ k, k < B + 5 → w2.heap[k]? = w1.heap[k]? := fun k hk => hg.block k (by omega) (fun e => by have := hr k e.symm; omega)
  obtain ⟨hne, v2, hr2, hl⟩ := h.rs
  exact ⟨h.below.grown hg (by omega) (fun k e => by have := hr k e; omega), Nat.le_trans hz hg.size, (hk _ (by omega)).trans h.res, ⟨hne, v2, (hk _ (by omega)).trans hr2, hl.of_same (hk _ (by omega))⟩, (hk _ (by omega)).trans h.out, (hk _ (by omega)).trans h.fld⟩
theorem RD.resCells {B : Nat} {w0 w1 : World} {f : Nat → Int} {v : Value} {xs : List ByteArray} {bad : Bool} (h : RD B w0 w1 f v xs bad) :
    w1.cell? ⟨B, 0, none⟩ = some (.int .i64 0) ∧ w1.cell? ⟨B, 1, none⟩ = some (.int .i64 0) ∧ w1.cell? ⟨B, 2, none⟩ = some (.int .i64 0) ∧ w1.cell? ⟨B, 3, none⟩ = some (.int .i64 0) ∧
    w1.cell? ⟨B, 4, none⟩ = some (.int .i64 0) ∧ w1.cell? ⟨B, 5, none⟩ = some (.int .i64 0) ∧ w1.cell? ⟨B, 6, none⟩ = some (.slice none 0 0) ∧ ∀ i, w1.frozen? ⟨B, i, none⟩ = false :=
  ⟨cell_of_heap h.res 0, cell_of_heap h.res 1, cell_of_heap h.res 2, cell_of_heap h.res 3, cell_of_heap h.res 4, cell_of_heap h.res 5, cell_of_heap h.res 6, fun i => frozen_of_heap h.res i⟩
theorem RD.outCells {B : Nat} {w0 w1 : World} {f : Nat → Int} {v : Value} {xs : List ByteArray} {bad : Bool} (h : RD B w0 w1 f v xs bad) :
    w1.cell? ⟨B + 3, 0, none⟩ = some (.int .i64 (f 0)) ∧ w1.cell? ⟨B + 3, 1, none⟩ = some (.int .i64 (f 1)) ∧ w1.cell? ⟨B + 3, 2, none⟩ = some (.int .i64 (f 2)) ∧ w1.cell? ⟨B + 3, 3, none⟩ = some (.int .i64 (f 3)) ∧
    w1.cell? ⟨B + 3, 4, none⟩ = some (.int .i64 (f 4)) ∧ w1.cell? ⟨B + 3, 5, none⟩ = some (.int .i64 (f 5)) ∧ w1.cell? ⟨B + 3, 6, none⟩ = some v :=
  ⟨cell_of_heap h.out 0, cell_of_heap h.out 1, cell_of_heap h.out 2, cell_of_heap h.out 3, cell_of_heap h.out 4, cell_of_heap h.out 5, cell_of_heap h.out 6⟩

theorem own_ints {w : World} {base : Nat} {v : Value} {zs : List Int} (h : w.ownsRow base 3 1 v zs.length (zs.map (Value.int .i64))) : ∃ p cap, v = .slice p zs.length cap ∧ IntsAt w p zs ∧ (p = none ∨ ∃ g, p = some ⟨g, 0, none⟩ ∧ base ≤ g) := by
  have h' := h
  obtain ⟨_, h2⟩ := h
  rcases h2 with ⟨rfl, h0⟩ | ⟨g, cap, cur, rfl, hb, hg, hcap, _, _, _⟩
  · exact ⟨none, 0, by rw [h0], .inl (List.length_eq_zero_iff.1 h0), .inl rfl⟩
  · refine ⟨_, cap, rfl, .inr ⟨g, 0, rfl, (Array.getElem?_eq_some_iff.1 hg).1, fun j hj => ?_⟩, .inr ⟨g, rfl, hb⟩⟩
    have := h'.cells (g := g) rfl j (.int .i64 (zs.getD j 0)) (by simp [List.getD, List.getElem?_eq_getElem hj])
    rw [← this]
    congr 1
    unfold Addr.add
    split <;> simp_all
theorem IntsAt.set {w : World} {p : Option Addr} {es : List Int} {base b : Nat} (h : IntsAt w p es) (hp : p = none ∨ ∃ g, p = some ⟨g, 0, none⟩ ∧ base ≤ g) (hb : b < base) {w' : World} (hw : ∀ k, k ≠ b → w'.heap[k]? = w.heap[k]?) (hs : w.heap.size ≤ w'.heap.size) : IntsAt w' p es := by
  rcases h with h | ⟨g, o, rfl, hlt, hc⟩
  · exact .inl h
  · refine .inr ⟨g, o, rfl, by omega, fun j hj => ?_⟩
    have hne : g ≠ b := by
      rcases hp with hp | ⟨g', hp, hg⟩
      · cases hp
      · injection hp with hp; injection hp with hp; omega
    exact (World.cell?_of_block (w := w) (hw g hne)).trans (hc j hj)

theorem stS_size (xs : List ByteArray) (m : Nat) (h : ∀ x ∈ xs, x.size ≤ m) : ∀ k, (∀ x ∈ (stS xs k).2.1, x.size ≤ m) ∧ (stS xs k).2.1.length ≤ xs.length := by
  have step : ∀ (ys : List ByteArray) (b : Bool), (∀ x ∈ ys, x.size ≤ m) → (∀ x ∈ (nextS ys b).2.1, x.size ≤ m) ∧ (nextS ys b).2.1.length ≤ ys.length := by
    intro ys b hy
    cases ys with
    | nil => exact ⟨hy, Nat.le_refl _⟩
    | cons y r => exact ⟨fun x hx => hy x (by simp [nextS] at hx; simp [hx]), by simp [nextS]⟩
  intro k
  induction k with
  | zero => exact ⟨h, Nat.le_refl _⟩
  | succ k ih =>
    have h1 := step (stS xs k).2.1 (stS xs k).2.2 ih.1
    have h2 := step (wordS (nmB k) (stS xs k).2.1 (stS xs k).2.2).1 (wordS (nmB k) (stS xs k).2.1 (stS xs k).2.2).2 h1.1
    exact ⟨h2.1, Nat.le_trans h2.2 (Nat.le_trans h1.2 ih.2)⟩

/-- The words of a text. -/
def wordsOf (s : ByteArray) : List ByteArray := Lib.splitB ⟨#[32]⟩ 0 (Lib.countB s ⟨#[32]⟩) s
theorem wordsOf_length (s : ByteArray) : (wordsOf s).length = Lib.countB s ⟨#[32]⟩ + 1 := Lib.splitB_all _ (by decide) 0 _ s rfl

theorem cutW_len : ∀ (s : List UInt8), ∀ w ∈ cutW s, w.length ≤ s.length
  | [], w, h => by simp [cutW] at h; simp [h]
  | c :: r, w, h => by
    have ih := cutW_len r
    have hne := cutW_ne r
    unfold cutW at h
    split at h
    · rcases List.mem_cons.1 h with rfl | h
      · simp
      · have := ih w h; simp; omega
    · cases hr : cutW r with
      | nil => exact absurd hr hne
      | cons x xs =>
        rw [hr] at h ih
        rcases List.mem_cons.1 h with rfl | h
        · have := ih x (by simp); simp; omega
        · have := ih w (by simp; exact .inr h); simp; omega
theorem wordsOf_data (s : ByteArray) : (wordsOf s).map (fun x => x.data.toList) = cutW s.data.toList := splitB_words s
theorem wordsOf_size (s : ByteArray) : ∀ x ∈ wordsOf s, x.size ≤ s.size := by
  intro x hx
  have h : x.data.toList ∈ cutW s.data.toList := by rw [← wordsOf_data]; exact List.mem_map.2 ⟨x, hx, rfl⟩
  have := cutW_len _ _ h
  simpa [Array.length_toList] using this
theorem wordS_size (t : ByteArray) (xs : List ByteArray) (b : Bool) (m : Nat) (h : ∀ x ∈ xs, x.size ≤ m) : (∀ x ∈ (wordS t xs b).1, x.size ≤ m) ∧ (wordS t xs b).1.length ≤ xs.length := by
  cases xs with
  | nil => exact ⟨h, Nat.le_refl _⟩
  | cons y r => exact ⟨fun x hx => h x (by simp [wordS, nextS] at hx; simp [hx]), by simp [wordS, nextS]⟩
/-- How many words are left, read off the world. -/
def leftN (w : World) (rb : Nat) : Nat := match w.cell? ⟨rb, 0, none⟩ with | some (.slice _ n _) => n | _ => 0
theorem RS.left {w : World} {rb kb : Nat} {xs : List ByteArray} {b : Bool} (h : RS w rb kb xs b) : leftN w rb = xs.length := by
  obtain ⟨hne, v, hr, o, rfl, _⟩ := h
  have := cell_of_heap hr 0
  simp only [List.getElem?_toArray, List.getElem?_cons_zero] at this
  simp [leftN, this]
/-- Five new blocks. -/
theorem five (w : World) (o1 o2 o3 o4 o5 : Obj) :
    (((((w.alloc o1).alloc o2).alloc o3).alloc o4).alloc o5).heap[w.heap.size]? = some o1 ∧ (((((w.alloc o1).alloc o2).alloc o3).alloc o4).alloc o5).heap[w.heap.size + 1]? = some o2 ∧
    (((((w.alloc o1).alloc o2).alloc o3).alloc o4).alloc o5).heap[w.heap.size + 2]? = some o3 ∧ (((((w.alloc o1).alloc o2).alloc o3).alloc o4).alloc o5).heap[w.heap.size + 3]? = some o4 ∧
    (((((w.alloc o1).alloc o2).alloc o3).alloc o4).alloc o5).heap[w.heap.size + 4]? = some o5 := by
  have e : ∀ (u : World) (o : Obj), (u.alloc o).heap = u.heap.push o := fun _ _ => rfl
  simp only [e]
  generalize w.heap = a
  refine ⟨?_, ?_, ?_, ?_, ?_⟩
  · rw [Array.getElem?_push_lt (by simp; omega), Array.getElem_push_lt (by simp; omega), Array.getElem_push_lt (by simp; omega), Array.getElem_push_lt (by simp), Array.getElem_push_eq]
  · rw [Array.getElem?_push_lt (by simp), Array.getElem_push_lt (by simp), Array.getElem_push_lt (by simp), Array.getElem_push]
    simp
  · rw [Array.getElem?_push_lt (by simp), Array.getElem_push_lt (by simp), Array.getElem_push]
    simp
  · rw [Array.getElem?_push_lt (by simp), Array.getElem_push]
    simp
  · rw [Array.getElem?_push]
    simp
theorem RD.first (s : ByteArray) (w : World) : RD w.heap.size w (((((w.alloc (Obj.cells #[Value.int IntKind.i64 0, Value.int IntKind.i64 0, Value.int IntKind.i64 0, Value.int IntKind.i64 0, Value.int IntKind.i64 0, Value.int IntKind.i64 0, Value.slice none 0 0] 41)).alloc
      (Obj.cells (List.map Value.string (Lib.splitB { data := #[32] } 0 (Lib.countB s { data := #[32] }) s)).toArray 9)).alloc
      (Obj.cells #[Value.slice (some { block := w.heap.size + 1, off := 0 }) (Lib.countB s { data := #[32] } + 1) (Lib.countB s { data := #[32] } + 1), Value.bool false] 76)).alloc
      (Obj.cells #[Value.int IntKind.i64 0, Value.int IntKind.i64 0, Value.int IntKind.i64 0, Value.int IntKind.i64 0, Value.int IntKind.i64 0, Value.int IntKind.i64 0, Value.slice none 0 0] 41)).alloc
      (Obj.cells (fcells (w.heap.size + 3)) 72)).drew (fun _ => 0) (.slice none 0 0) (wordsOf s) false := by
  have hl := wordsOf_length s
  obtain ⟨h0, h1, h2, h3, h4⟩ := five w (Obj.cells #[Value.int IntKind.i64 0, Value.int IntKind.i64 0, Value.int IntKind.i64 0, Value.int IntKind.i64 0, Value.int IntKind.i64 0, Value.int IntKind.i64 0, Value.slice none 0 0] 41)
    (Obj.cells (List.map Value.string (Lib.splitB { data := #[32] } 0 (Lib.countB s { data := #[32] }) s)).toArray 9)
    (Obj.cells #[Value.slice (some { block := w.heap.size + 1, off := 0 }) (Lib.countB s { data := #[32] } + 1) (Lib.countB s { data := #[32] } + 1), Value.bool false] 76)
    (Obj.cells #[Value.int IntKind.i64 0, Value.int IntKind.i64 0, Value.int IntKind.i64 0, Value.int IntKind.i64 0, Value.int IntKind.i64 0, Value.int IntKind.i64 0, Value.slice none 0 0] 41)
    (Obj.cells (fcells (w.heap.size + 3)) 72)
  refine ⟨(((((((Below.refl w.heap.size w).alloc (Nat.le_refl _) _).alloc (by simp) _).alloc (by simp; omega) _).alloc (by simp; omega) _).alloc (by simp; omega) _)).drew, by simp, h0, ⟨by omega, _, h2, 0, by rw [hl], fun j x hj => ?_⟩, h3, h4⟩
  have e : (List.map Value.string (wordsOf s)).toArray[0 + j]? = some (.string x) := by simp [hj]
  exact (cell_of_heap h1 (0 + j)).trans e

/-- Seven cells written one by one. -/
def set7 (w : World) (b : Nat) (v0 v1 v2 v3 v4 v5 v6 : Value) : World :=
  ((((((w.setCell ⟨b, 0, none⟩ v0).setCell ⟨b, 1, none⟩ v1).setCell ⟨b, 2, none⟩ v2).setCell ⟨b, 3, none⟩ v3).setCell ⟨b, 4, none⟩ v4).setCell ⟨b, 5, none⟩ v5).setCell ⟨b, 6, none⟩ v6
theorem below_set7 (w : World) (b : Nat) (v0 v1 v2 v3 v4 v5 v6 : Value) : Below b w (set7 w b v0 v1 v2 v3 v4 v5 v6) := by
  unfold set7
  have h := fun (w' : World) (i : Nat) (v : Value) (h : Below b w w') => h.setCell (p := ⟨b, i, none⟩) (Nat.le_refl b) v
  exact h _ _ _ (h _ _ _ (h _ _ _ (h _ _ _ (h _ _ _ (h _ _ _ (h _ _ _ (Below.refl _ _)))))))
theorem heap_set7 {w : World} {b : Nat} {t : TypeId} {f : Nat × Nat} {u0 u1 u2 u3 u4 u5 u6 : Value} (h : w.heap[b]? = some (.cells #[u0, u1, u2, u3, u4, u5, u6] t f)) (v0 v1 v2 v3 v4 v5 v6 : Value) :
    (set7 w b v0 v1 v2 v3 v4 v5 v6).heap[b]? = some (.cells #[v0, v1, v2, v3, v4, v5, v6] t f) := by
  unfold set7
  have h0 : (w.setCell ⟨b, 0, none⟩ v0).heap[b]? = some (.cells #[v0, u1, u2, u3, u4, u5, u6] t f) := by rw [heap_set h]; rfl
  have h1 : ((w.setCell ⟨b, 0, none⟩ v0).setCell ⟨b, 1, none⟩ v1).heap[b]? = some (.cells #[v0, v1, u2, u3, u4, u5, u6] t f) := by rw [heap_set h0]; rfl
  have h2 := heap_set h1 2 v2
  rw [show (#[v0, v1, u2, u3, u4, u5, u6] : Array Value).setIfInBounds 2 v2 = #[v0, v1, v2, u3, u4, u5, u6] from rfl] at h2
  have h3 := heap_set h2 3 v3
  rw [show (#[v0, v1, v2, u3, u4, u5, u6] : Array Value).setIfInBounds 3 v3 = #[v0, v1, v2, v3, u4, u5, u6] from rfl] at h3
  have h4 := heap_set h3 4 v4
  rw [show (#[v0, v1, v2, v3, u4, u5, u6] : Array Value).setIfInBounds 4 v4 = #[v0, v1, v2, v3, v4, u5, u6] from rfl] at h4
  have h5 := heap_set h4 5 v5
  rw [show (#[v0, v1, v2, v3, v4, u5, u6] : Array Value).setIfInBounds 5 v5 = #[v0, v1, v2, v3, v4, v5, u6] from rfl] at h5
  rw [heap_set h5, show (#[v0, v1, v2, v3, v4, v5, u6] : Array Value).setIfInBounds 6 v6 = #[v0, v1, v2, v3, v4, v5, v6] from rfl]
theorem heap_set7_ne {w : World} {b k : Nat} (h : k ≠ b) (v0 v1 v2 v3 v4 v5 v6 : Value) : (set7 w b v0 v1 v2 v3 v4 v5 v6).heap[k]? = w.heap[k]? := by
  unfold set7
  rw [heap_set_ne h, heap_set_ne h, heap_set_ne h, heap_set_ne h, heap_set_ne h, heap_set_ne h, heap_set_ne h]

/-- What deed.Read comes to: none, or the numbers and the edges. -/
def readS (xs : List ByteArray) : Option ((Nat → Int) × List Int) :=
  if 64 < (wordS (nmB 6) (stS xs 6).2.1 (stS xs 6).2.2).1.length then none
  else if (edgesS (wordS (nmB 6) (stS xs 6).2.1 (stS xs 6).2.2).1 (wordS (nmB 6) (stS xs 6).2.1 (stS xs 6).2.2).2).2 then none
  else some ((stS xs 6).1, (edgesS (wordS (nmB 6) (stS xs 6).2.1 (stS xs 6).2.2).1 (wordS (nmB 6) (stS xs 6).2.1 (stS xs 6).2.2).2).1)
def ReadPost (r : Option ((Nat → Int) × List Int)) (w : World) (e : Ending) (w' : World) : Prop :=
  Below w.heap.size w w' ∧ match r with
  | none => e = .returned (.tuple #[.agg (scells (fun _ => 0) (.slice none 0 0)), .int .i64 5])
  | some (f, es) => ∃ p c, e = .returned (.tuple #[.agg (scells f (.slice p es.length c)), .int .i64 0]) ∧ IntsAt w' p es

set_option maxRecDepth 100000 in
set_option maxHeartbeats 1600000 in
theorem read_any (s : ByteArray) (w : World) (hE : Env w) (hs : s.size ≤ 1048576) :
    Calls Tryd.prog 17 #[.string s] w (ReadPost (readS (wordsOf s)) w) := by
  have hl := wordsOf_length s
  have hle := Lib.countB_le ⟨#[32]⟩ (by decide) s.size s (Nat.le_refl _)
  have Hl := Lib.hid hl
  clear hl
  go_enter Tryd.func17, Tryd.ntmps17
  go_wp2_with (first
    | (go_at_call 25; refine (split_call s _ (hE.below (Below.refl _ w |>.alloc (Nat.le_refl _) _) hE.size) (by omega)).mono ?_; rintro e1 w1 ⟨rfl, rfl⟩)
    | (go_at_call 30; refine (fields_any _ _).mono ?_; rintro e1 w1 ⟨rfl, rfl⟩))
  simp only [Nat.add_assoc, Nat.reduceAdd]
  have hx0 : ∀ x ∈ wordsOf s, x.size ≤ 281474976710656 := fun x hx => by have := wordsOf_size s x hx; omega
  have hsz := stS_size (wordsOf s) _ hx0
  have hlen : (wordsOf s).length ≤ 1048577 := by rw [Hl.out]; omega
  have hRD := RD.first s w
  generalize (((((w.alloc _).alloc _).alloc _).alloc _).alloc _).drew = w2 at hRD ⊢
  have Hsz := Lib.hid hsz
  clear hsz hx0
  go_loopw [17] (fun i wr => ∃ k : Nat, k ≤ 6 ∧ i = .int .i64 k ∧ RD w.heap.size w wr (stS (wordsOf s) k).1 (.slice none 0 0) (stS (wordsOf s) k).2.1 (stS (wordsOf s) k).2.2)
    (fun i _ => 6 - (intOf i).toNat)
  case atStart => exact ⟨0, by omega, rfl, hRD⟩
  case round =>
    obtain ⟨k, hk, rfl, hr⟩ := hrel
    clear hRD
    have hz := hr.size
    by_cases hlt : k < 6
    · have c1 := (cell_of_heap hr.fld (k * 2)).trans (fcells_word (w.heap.size + 3) k hlt)
      have c2 := (cell_of_heap hr.fld (k * 2 + 1)).trans (fcells_at (w.heap.size + 3) k hlt)
      have hd : decide ((k : Int) < 6) = true := by simp; omega
      obtain ⟨hz1, hz2⟩ := Hsz.out k
      have Hr := Lib.hid hr
      have Hz1 := Lib.hid hz1
      clear hr hz1
      go_upto_region 8 with (go_at_call 34; refine (word_any (nmB k) (w.heap.size + 2) (w.heap.size + 1) (stS (wordsOf s) k).2.1 (stS (wordsOf s) k).2.2 _ (Hr.out.more ((Below.refl _ _).alloc (Nat.le_refl _) _)).rs (by omega)).mono ?_; rintro e1 w1 ⟨rfl, hrs1, hg1⟩)
      have hr1 := (Hr.out.more ((Below.refl _ _).alloc (Nat.le_refl _) _)).step hg1 hrs1
      have hE1 : Env w1 := hE.below hr1.below hE.size
      have d1 : w1.cell? ⟨wr.heap.size, 1, none⟩ = some (.pointer (some ⟨w.heap.size + 3, k, none⟩)) := by
        rw [far hg1 (by simp) (by show wr.heap.size ≠ _; omega)]; simp
      have hS : ∀ w', (w1.drewN 1).grownBy w' (some (w.heap.size + 2)) → w'.cell? ⟨wr.heap.size, 1, none⟩ = some (.pointer (some ⟨w.heap.size + 3, k, none⟩)) := fun w' hg =>
        (far hg (by have := hg1.size; simp at this; show wr.heap.size < w1.heap.size; omega) (by show wr.heap.size ≠ _; omega)).trans d1
      obtain ⟨zw1, zw2⟩ : (∀ x ∈ (wordS (nmB k) (stS (wordsOf s) k).2.1 (stS (wordsOf s) k).2.2).1, x.size ≤ 281474976710656) ∧ (wordS (nmB k) (stS (wordsOf s) k).2.1 (stS (wordsOf s) k).2.2).1.length ≤ 9223372036854775807 :=
        ⟨(wordS_size (nmB k) _ (stS (wordsOf s) k).2.2 _ Hz1.out).1, by have := (wordS_size (nmB k) _ (stS (wordsOf s) k).2.2 _ Hz1.out).2; omega⟩
      have st1 : stS (wordsOf s) (k + 1) = (fun j => if j = k then (numberS (wordS (nmB k) (stS (wordsOf s) k).2.1 (stS (wordsOf s) k).2.2).1 (wordS (nmB k) (stS (wordsOf s) k).2.1 (stS (wordsOf s) k).2.2).2).1 else (stS (wordsOf s) k).1 j, (numberS (wordS (nmB k) (stS (wordsOf s) k).2.1 (stS (wordsOf s) k).2.2).1 (wordS (nmB k) (stS (wordsOf s) k).2.1 (stS (wordsOf s) k).2.2).2).2) := rfl
      have St1 := Lib.hid st1
      clear st1
      generalize (wordS (nmB k) (stS (wordsOf s) k).2.1 (stS (wordsOf s) k).2.2).1 = ys at *
      generalize (wordS (nmB k) (stS (wordsOf s) k).2.1 (stS (wordsOf s) k).2.2).2 = b1 at *
      have Zw1 := Lib.hid zw1
      have HS := Lib.hid hS
      clear zw1 hS
      have nc : ∀ q, Calls Tryd.prog 33 #[.pointer (some ⟨w.heap.size + 2, 0, none⟩)] (w1.drewN q) fun e w' => e = .returned (.int .i64 (numberS ys b1).1) ∧ RS w' (w.heap.size + 2) (w.heap.size + 1) (numberS ys b1).2.1 (numberS ys b1).2.2 ∧ (w1.drewN q).grownBy w' (some (w.heap.size + 2)) := fun q =>
        number_any (w.heap.size + 2) (w.heap.size + 1) ys b1 _ (hE1.below (below_drewN (Below.refl w1.heap.size w1) q) hE1.size) (by have := hE.size; omega) (hr1.more (below_drewN (Below.refl _ _) q)).rs (by have := hr1.size; show _ < w1.heap.size; omega) (by omega) Zw1.out
      have NC := Lib.hid (nc 1)
      clear nc
      go_region_held3 (fun w' => w'.cell? ⟨wr.heap.size, 1, none⟩ = some (.pointer (some ⟨w.heap.size + 3, k, none⟩)))
        (first | go_keep | exact HS.out _ hg2 | exact (cell_set_ne (by omega) _).trans (HS.out _ hg2))
        ((go_at_call 33; refine NC.out.mono ?_; rintro e2 w3 ⟨rfl, hrs2, hg2⟩; have hr2 := (hr1.more (below_drewN (Below.refl _ _) 1)).step hg2 hrs2; have o1 := (cell_of_heap hr2.out k).trans (scells_at _ _ k hlt); have o2 := frozen_of_heap hr2.out k))
      have hfin := hr2.num k hlt (numberS ys b1).1
      have Hfin := Lib.hid hfin
      clear hfin o1 o2 hr2 hr1 d1 c1 c2
      go_wp2
      go_roundw
      case rel => exact ⟨k + 1, by omega, by go_num, by rw [St1.out]; exact Hfin.out⟩
      case measure => simp [intOf]; omega
    · obtain rfl : k = 6 := by omega
      obtain ⟨hz1, hz2⟩ := Hsz.out 6
      have Hr := Lib.hid hr
      obtain ⟨f, Hf⟩ : ∃ f, Hid (f = (stS (wordsOf s) 6).1) := ⟨_, Lib.hid rfl⟩
      obtain ⟨xs, Hx⟩ : ∃ xs, Hid (xs = (stS (wordsOf s) 6).2.1) := ⟨_, Lib.hid rfl⟩
      obtain ⟨b, Hb⟩ : ∃ b, Hid (b = (stS (wordsOf s) 6).2.2) := ⟨_, Lib.hid rfl⟩
      rw [← Hx.out] at hz1 hz2
      clear Hr
      rw [← Hf.out, ← Hx.out, ← Hb.out] at hr
      have Hr := Lib.hid hr
      clear hr
      go_upto_region 11 with (go_at_call 34; refine (word_any (nmB 6) (w.heap.size + 2) (w.heap.size + 1) xs b _ Hr.out.rs (by omega)).mono ?_; rintro e1 w1 ⟨rfl, hrs1, hg1⟩)
      have hw1 := Hr.out.step hg1 hrs1
      obtain ⟨zy1, zy2⟩ := wordS_size (nmB 6) xs b _ hz1
      have hpost : readS (wordsOf s) = if 64 < (wordS (nmB 6) xs b).1.length then none else if (edgesS (wordS (nmB 6) xs b).1 (wordS (nmB 6) xs b).2).2 then none else some (f, (edgesS (wordS (nmB 6) xs b).1 (wordS (nmB 6) xs b).2).1) := by rw [Hf.out, Hx.out, Hb.out]; rfl
      generalize (wordS (nmB 6) xs b).1 = ys at *
      generalize (wordS (nmB 6) xs b).2 = b1 at *
      have Hpost := Lib.hid hpost
      clear hpost
      clear Hr hrs1 hg1
      have hzy : ys.length ≤ 1048577 := by omega
      have Zy := Lib.hid zy1
      clear zy1
      have hE1 : Env w1 := hE.below hw1.below hE.size
      obtain ⟨hne, v1, hv1, o1, rfl, hc1⟩ := hw1.rs
      have c0 := cell_of_heap hv1 0
      simp only [List.getElem?_toArray, List.getElem?_cons_zero] at c0
      by_cases h64 : 64 < ys.length
      · have hg : (64 : Int) < (ys.length : Int) := by omega
        have r0 : w1.cell? ⟨w.heap.size, 0, none⟩ = some (.int .i64 0) := cell_of_heap hw1.res 0
        have r1 : w1.cell? ⟨w.heap.size, 1, none⟩ = some (.int .i64 0) := cell_of_heap hw1.res 1
        have r2 : w1.cell? ⟨w.heap.size, 2, none⟩ = some (.int .i64 0) := cell_of_heap hw1.res 2
        have r3 : w1.cell? ⟨w.heap.size, 3, none⟩ = some (.int .i64 0) := cell_of_heap hw1.res 3
        have r4 : w1.cell? ⟨w.heap.size, 4, none⟩ = some (.int .i64 0) := cell_of_heap hw1.res 4
        have r5 : w1.cell? ⟨w.heap.size, 5, none⟩ = some (.int .i64 0) := cell_of_heap hw1.res 5
        have r6 : w1.cell? ⟨w.heap.size, 6, none⟩ = some (.slice none 0 0) := cell_of_heap hw1.res 6
        have fz : ∀ i, w1.frozen? ⟨w.heap.size, i, none⟩ = false := fun i => frozen_of_heap hw1.res i
        clear hc1
        go_wp2
        refine bodyPost_ret (v := .tuple #[.agg (scells (fun _ => 0) (.slice none 0 0)), .int .i64 5]) (by simp [results, Tryd.results17, go_sem, r0, r1, r2, r3, r4, r5, r6, scells]) rfl ?_
        have hb := below_set7 w1 w.heap.size (.int .i64 0) (.int .i64 0) (.int .i64 0) (.int .i64 0) (.int .i64 0) (.int .i64 0) (.slice none 0 0)
        exact ⟨hw1.below.trans hb, by rw [Hpost.out, if_pos h64]⟩
      · have hg : ¬ (64 : Int) < (ys.length : Int) := by omega
        obtain ⟨i0, hi, hi0, hi1, hi2⟩ := info_parts Tryd.info3
        have Hw1 := Lib.hid hw1
        have hw1z := trivial
        clear hw1 hc1 hv1
        go_wp2
        go_loopw [] (fun wr => ∃ (zs : List Int) (xs : List ByteArray) (bad : Bool) (v : Value), RD w.heap.size w wr f v xs bad ∧ wr.ownsRow (w.heap.size + 5) 3 1 v zs.length (zs.map (Value.int .i64)) ∧ zs.length + xs.length ≤ 64 ∧
            edgesS ys b1 = (zs ++ (edgesS xs bad).1, (edgesS xs bad).2) ∧ ∀ x ∈ xs, x.size ≤ 281474976710656)
          (fun wr => leftN wr (w.heap.size + 2))
        case atStart => exact ⟨[], ys, b1, .slice none 0 0, Hw1.out, World.ownsRow_nil _ _ _ _, by simp; omega, by simp, Zy.out⟩
        case round =>
          obtain ⟨zs, xs2, bad, v, hr, hown, hlen2, hed, hx2⟩ := hrel
          have hB := hr.below
          obtain ⟨r0, r1, r2, r3, r4, r5, r6, fz⟩ := hr.resCells
          obtain ⟨o0, o1', o2, o3, o4, o5, o6⟩ := hr.outCells
          have b1c := hr.rs.cell
          obtain ⟨hne2, vl, hv2, ol, rfl, hcl⟩ := hr.rs
          have l0 := cell_of_heap hv2 0
          simp only [List.getElem?_toArray, List.getElem?_cons_zero] at l0
          clear hcl hv2 hne2 hw1z
          cases bad with
          | true =>
            have hfin : readS (wordsOf s) = none := by
              rw [Hpost.out, if_neg h64, if_pos (by rw [hed]; cases xs2 <;> rfl)]
            have Hfin := Lib.hid hfin
            clear hfin hed hown hr o0 o1' o2 o3 o4 o5 o6 hx2
            cases xs2 with
            | nil =>
              simp only [List.length_nil] at l0
              go_wp2
              refine bodyPost_ret (v := .tuple #[.agg (scells (fun _ => 0) (.slice none 0 0)), .int .i64 5]) (by simp [results, Tryd.results17, go_sem, r0, r1, r2, r3, r4, r5, r6, scells]) rfl ?_
              have hb := below_set7 wr w.heap.size (.int .i64 0) (.int .i64 0) (.int .i64 0) (.int .i64 0) (.int .i64 0) (.int .i64 0) (.slice none 0 0)
              exact ⟨hB.trans hb, by rw [Hfin.out]⟩
            | cons x r =>
              have hp : (0 : Int) < ((x :: r).length : Int) := by simp only [List.length_cons]; omega
              go_wp2
              refine bodyPost_ret (v := .tuple #[.agg (scells (fun _ => 0) (.slice none 0 0)), .int .i64 5]) (by simp [results, Tryd.results17, go_sem, r0, r1, r2, r3, r4, r5, r6, scells]) rfl ?_
              have hb := below_set7 wr w.heap.size (.int .i64 0) (.int .i64 0) (.int .i64 0) (.int .i64 0) (.int .i64 0) (.int .i64 0) (.slice none 0 0)
              exact ⟨hB.trans hb, by rw [Hfin.out]⟩
          | false =>
            cases xs2 with
            | nil =>
              have hfin : readS (wordsOf s) = some (f, zs) := by
                rw [Hpost.out, if_neg h64, hed]
                simp [edgesS]
              have Hfin := Lib.hid hfin
              simp only [List.length_nil] at l0
              obtain ⟨p, cap, rfl, hints, hp⟩ := own_ints hown
              have hres := hr.res
              have Hres := Lib.hid hres
              have Hi := Lib.hid hints
              clear hfin hed hx2 hown hres hints hr
              go_wp2
              have hb := below_set7 wr w.heap.size (.int .i64 (f 0)) (.int .i64 (f 1)) (.int .i64 (f 2)) (.int .i64 (f 3)) (.int .i64 (f 4)) (.int .i64 (f 5)) (.slice p zs.length cap)
              refine bodyPost_ret (v := .tuple #[.agg (scells f (.slice p zs.length cap)), .int .i64 0]) (by simp [results, Tryd.results17, go_sem, r0, r1, r2, r3, r4, r5, r6, scells]) rfl ?_
              refine ⟨hB.trans hb, ?_⟩
              rw [Hfin.out]
              exact ⟨p, cap, rfl, Hi.out.set (b := w.heap.size) hp (by omega) (fun k hk => heap_set7_ne hk _ _ _ _ _ _ _) hb.size⟩
            | cons x r =>
              have hp : (0 : Int) < ((x :: r).length : Int) := by simp only [List.length_cons]; omega
              obtain ⟨p, cap, rfl, hints, hpp⟩ := own_ints hown
              have hE2 : Env wr := hE.below hr.below hE.size
              have hL := hr.rs.left
              have HL := Lib.hid hL
              clear hL
              have hz2' := hr.size
              simp only [List.length_cons] at hlen2
              have Hr := Lib.hid hr
              have Hown := Lib.hid hown
              have Hed := Lib.hid hed
              have Hx2 := Lib.hid hx2
              have nc : Calls Tryd.prog 33 #[.pointer (some ⟨w.heap.size + 2, 0, none⟩)] wr.drew fun e w' => e = .returned (.int .i64 (numberS (x :: r) false).1) ∧ RS w' (w.heap.size + 2) (w.heap.size + 1) (numberS (x :: r) false).2.1 (numberS (x :: r) false).2.2 ∧ wr.drew.grownBy w' (some (w.heap.size + 2)) :=
                number_any (w.heap.size + 2) (w.heap.size + 1) (x :: r) false wr.drew (hE2.below (B := wr.heap.size) (Below.refl _ _).drew hE2.size) (by have := hE.size; omega) (hr.more (Below.refl _ _).drew).rs (by show _ < wr.heap.size; omega) (by simp only [List.length_cons]; omega) hx2
              have NC := Lib.hid nc
              clear nc hr hown hed hx2 hints r0 r1 r2 r3 r4 r5 r6 fz o0 o1' o2 o3 o4 o5
              go_upto_region 14 with fail
              clear b1c l0
              have hS : (fun w' : World => w'.cell? ⟨w.heap.size + 3, 6, none⟩ = some (.slice p zs.length cap)) wr.drew := o6
              have hC : ∀ w', (fun w' : World => w'.cell? ⟨w.heap.size + 3, 6, none⟩ = some (.slice p zs.length cap)) w' → w'.cell? ⟨w.heap.size + 3, 6, none⟩ = some (.slice p zs.length cap) := fun _ h => h
              refine hold_begin (S := fun w' : World => w'.cell? ⟨w.heap.size + 3, 6, none⟩ = some (.slice p zs.length cap)) (n := 7) (by kernel_rfl) (by kernel_rfl) ?_
              simp only [List.replicate_succ, List.replicate_zero, List.length_cons, List.length_nil, Nat.reduceAdd]
              refine hold_take 0 (.pointer (some ⟨w.heap.size + 3, 3, none⟩)) rfl rfl (by decide) (by kernel_rfl) (by kernel_rfl) (by kernel_rfl) (by kernel_rfl) (fun _ _ _ h => h) hS rfl (fun w' hw' => by have hw2 := hC w' hw'; go_simp) ?_
              simp only [Act.put, List.setIfInBounds_toArray, List.set_cons_zero, List.set_cons_succ]
              refine hold_take 1 (.pointer (some ⟨w.heap.size + 3, 6, none⟩)) rfl rfl (by decide) (by kernel_rfl) (by kernel_rfl) (by kernel_rfl) (by kernel_rfl) (fun _ _ _ h => h) hS rfl (fun w' hw' => by have hw2 := hC w' hw'; go_simp) ?_
              simp only [Act.put, List.setIfInBounds_toArray, List.set_cons_zero, List.set_cons_succ]
              refine hold_take 2 (.slice p zs.length cap) rfl rfl (by decide) (by kernel_rfl) (by kernel_rfl) (by kernel_rfl) (by kernel_rfl) (fun _ _ _ h => h) hS rfl (fun w' hw' => by have hw2 := hC w' hw'; go_simp) ?_
              simp only [Act.put, List.setIfInBounds_toArray, List.set_cons_zero, List.set_cons_succ]
              refine hold_take 3 (.func (.func 33) #[.pointer (some ⟨w.heap.size + 2, 0, none⟩)] #[]) rfl rfl (by decide) (by kernel_rfl) (by kernel_rfl) (by kernel_rfl) (by kernel_rfl) (fun _ _ _ h => h) hS rfl (fun w' hw' => by have hw2 := hC w' hw'; go_simp) ?_
              simp only [Act.put, List.setIfInBounds_toArray, List.set_cons_zero, List.set_cons_succ]
              refine hold_force 4 rfl (by decide) (by kernel_rfl) rfl (fun K hK => ?_)
              go_wp2_with (go_at_call 33; refine NC.out.mono ?_; rintro e2 w3 ⟨rfl, hrs2, hg2⟩)
              have hr3 := ((Hr.out.more (Below.refl _ _).drew).step hg2 hrs2)
              have hS3 : w3.cell? ⟨w.heap.size + 3, 6, none⟩ = some (.slice p zs.length cap) := cell_of_heap hr3.out 6
              have hB3 := hr3.size
              have hownD : wr.drew.ownsRow (w.heap.size + 5) 3 1 (.slice p zs.length cap) zs.length (zs.map (Value.int .i64)) := own_below Hown.out (Below.refl wr.heap.size wr).drew
              have hown3 : w3.ownsRow (w.heap.size + 5) 3 1 (.slice p zs.length cap) zs.length (zs.map (Value.int .i64)) := hownD.kept hg2 (by
                rcases hpp with rfl | ⟨g, rfl, hg⟩
                · exact .inl rfl
                · exact .inr (by simp [Value.ownBlock]; omega))
              clear hownD
              have Hr3 := Lib.hid hr3
              clear hr3 hg2 hrs2 Hown NC Hr hS
              refine hK _ _ hS3 ?_
              clear hK K
              refine hold_force 5 rfl (by decide) (by kernel_rfl) rfl (fun K hK => ?_)
              go_wp2
              refine hK _ _ (((Below.refl _ w3).alloc (Nat.le_refl _) _).cell (p := ⟨w.heap.size + 3, 6, none⟩) (by show w.heap.size + 3 < w3.heap.size; omega) |>.trans hS3) ?_
              clear hK K
              refine hold_force 6 rfl (by decide) (by kernel_rfl) rfl (fun K hK => ?_)
              refine wp_append_lies _ _ _ 37 rfl (w.heap.size + 5) 3 i0 (.int .i64 0) 1 8 Tryd.underlying37 hi hi0 hi1 hi2 rfl (by decide) (.slice p zs.length cap) zs.length _ rfl (hown3.alloc _) ⟨w3.heap.size, 0, none⟩ 1 1 [.int .i64 (numberS (x :: r) false).1] rfl rfl (cell_one_new _ _ _) (by simp [Value.oneCell']) (by decide) (by unfold maxLen; omega) (by omega) (by simp; omega) _ rfl ?_
              intro g5 cap5 w5 hown5 hgrow5 hat5 hlt5
              simp only [Act.put, List.getElem_toArray, List.getElem_cons_succ, List.getElem_cons_zero, List.setIfInBounds_toArray, List.set_cons_zero, List.set_cons_succ]
              have hr5 : RD w.heap.size w w5 f (.slice p zs.length cap) (numberS (x :: r) false).2.1 (numberS (x :: r) false).2.2 := RD.own (Hr3.out.more (w2 := w3.alloc (.cells #[.int .i64 (numberS (x :: r) false).1] 3)) ((Below.refl _ _).alloc (Nat.le_refl _) _)) hgrow5 (fun k e => (hown3.lt k e).1)
              have hS5 : w5.cell? ⟨w.heap.size + 3, 6, none⟩ = some (.slice p zs.length cap) := cell_of_heap hr5.out 6
              have hF5 : w5.frozen? ⟨w.heap.size + 3, 6, none⟩ = false := frozen_of_heap hr5.out 6
              refine hK _ _ hS5 ?_
              clear hK K
              refine hold_end (by kernel_rfl) rfl ?_
              have Hr5 := Lib.hid hr5
              have Hown5 := Lib.hid hown5
              clear hr5 hC hS3 o6 hown3 hown5
              go_wp2
              have hnew : RD w.heap.size w (w5.setCell ⟨w.heap.size + 3, 6, none⟩ (.slice (some ⟨g5, 0, none⟩) (zs.length + 1) cap5)) f (.slice (some ⟨g5, 0, none⟩) (zs.length + 1) cap5) (numberS (x :: r) false).2.1 (numberS (x :: r) false).2.2 := Hr5.out.slice _
              refine ⟨⟨zs ++ [(numberS (x :: r) false).1], (numberS (x :: r) false).2.1, (numberS (x :: r) false).2.2, .slice (some ⟨g5, 0, none⟩) (zs.length + 1) cap5, hnew, ?_, ?_, ?_, ?_⟩, ?_⟩
              · have h5 := ownsRow_setCell_below (a := ⟨w.heap.size + 3, 6, none⟩) Hown5.out (by show w.heap.size + 3 < w.heap.size + 5; omega) (.slice (some ⟨g5, 0, none⟩) (zs.length + 1) cap5)
                simpa using h5
              · simp only [List.length_append, List.length_cons, List.length_nil]
                show _ + r.length ≤ 64
                omega
              · rw [Hed.out]
                show _ = ((zs ++ [(numberS (x :: r) false).1]) ++ (edgesS r (numberS (x :: r) false).2.2).1, (edgesS r (numberS (x :: r) false).2.2).2)
                rw [List.append_assoc]
                rfl
              · exact fun y hy => Hx2.out y (by have : y ∈ r := hy; simp [this])
              · rw [hnew.rs.left, HL.out]
                show r.length < r.length + 1
                omega
end Go.Proofs.YtmadabecpgjpjaaDoor
