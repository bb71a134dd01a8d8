/- tale's form.write. -/
import Derived.Test.YtmadabecpgjpjaaDoorTaleF
import Derived.Test.YtmadabecpgjpjaaDoorDeedA
namespace Go.Proofs.YtmadabecpgjpjaaDoor
open Go.RowKit

/-- The two numbers of a step. -/
def numsT (a b : Int) : Nat → Int
  | 0 => a
  | _ => b
/-- What follows the word. -/
def tailT (f : Nat → Int) : Nat → List UInt8
  | 0 => []
  | k + 1 => tailT f k ++ 32 :: Lib.itoa (f k)
/-- The line of a step. -/
def lineT (w : ByteArray) (n : Nat) (a b : Int) : ByteArray := ⟨(w.data.toList ++ tailT (numsT a b) n).toArray⟩
theorem tailT_len {f : Nat → Int} (h : ∀ k, I64 (f k)) : ∀ k, (tailT f k).length ≤ 22 * k
  | 0 => by simp [tailT]
  | k + 1 => by
    have := tailT_len h k
    have h2 := itoa_len (f k) (h k).lo (h k).hi
    simp only [tailT, List.length_append, List.length_cons]
    omega
theorem numsT_i64 {a b : Int} (ha : I64 a) (hb : I64 b) : ∀ k, I64 (numsT a b k)
  | 0 => ha
  | _ + 1 => hb

theorem Bd.later {B b : Nat} {l : List UInt8} {w w' : World} (h : Bd B b l w) (hb : Below w.heap.size w w') : Bd B b l w' := by
  have f : ∀ p, Lib.BuilderAt 85 5 B b p (Lib.byteCells l) w → Lib.BuilderAt 85 5 B b p (Lib.byteCells l) w' := fun p ⟨hB, v, hk, hown, hne⟩ =>
    ⟨hB, v, (hb.block b (Array.getElem?_eq_some_iff.1 hk).1).trans hk, own_below hown hb, hne⟩
  exact h.elim (fun x => .inl (f _ x)) (fun x => .inr (f _ x))

theorem heap3 (w : World) (o1 o2 o3 : Obj) : (((w.alloc o1).alloc o2).alloc o3).heap[w.heap.size]? = some o1 ∧ (((w.alloc o1).alloc o2).alloc o3).heap[w.heap.size + 1]? = some o2 ∧ (((w.alloc o1).alloc o2).alloc o3).heap[w.heap.size + 2]? = some o3 := by
  refine ⟨?_, ?_, ?_⟩
  all_goals simp only [World.alloc, Array.getElem?_push, Array.size_push, Nat.add_assoc, Nat.reduceAdd]
  all_goals simp

set_option maxRecDepth 100000 in
set_option maxHeartbeats 1600000 in
theorem fwrite_any (wd : ByteArray) (n : Nat) (a b : Int) (hn : n ≤ 2) (ha : I64 a) (hb : I64 b) (hw : wd.size ≤ 1000) (w : World) (hE : Env w) :
    Calls Tryd.prog 23 #[.agg #[.string wd, .int .i64 n], .agg #[.int .i64 a, .int .i64 b]] w fun e w' => e = .returned (.string (lineT wd n a b)) ∧ Below w.heap.size w w' := by
  have hz8 := hE.size
  have hn1 : (n : Int) ≤ 2 := by omega
  have hn0 : (0 : Int) ≤ (n : Int) := by omega
  go_enter Tryd.func23, Tryd.ntmps23
  go_upto_region 2 with fail
  simp only [Nat.add_assoc, Nat.reduceAdd]
  generalize hw2 : World.alloc _ _ = w2
  have hbl : Below w.heap.size w w2 := by rw [← hw2]; exact (((Below.refl _ w).alloc (Nat.le_refl _) _).alloc (by simp) _).alloc (by simp; omega) _
  have hsz : w2.heap.size = w.heap.size + 3 := by rw [← hw2]; simp
  have hB : Bd (w.heap.size + 2) (w.heap.size + 2) [] w2 := by
    have h := Bd.fresh ((w.alloc (Obj.cells #[Value.string wd, Value.int IntKind.i64 n] 51)).alloc (Obj.cells #[Value.int IntKind.i64 a, Value.int IntKind.i64 b] 54))
    rw [show ((w.alloc (Obj.cells #[Value.string wd, Value.int IntKind.i64 n] 51)).alloc (Obj.cells #[Value.int IntKind.i64 a, Value.int IntKind.i64 b] 54)).heap.size = w.heap.size + 2 by simp] at h
    rw [← hw2]
    exact h
  have H := heap3 w (.cells #[.string wd, .int .i64 n] 51 (0, 0)) (.cells #[.int .i64 a, .int .i64 b] 54 (0, 0)) (.cells #[.pointer none, .slice none 0 0] 85 (0, 0))
  have hW : ((w.alloc (.cells #[.string wd, .int .i64 n] 51 (0, 0))).alloc (.cells #[.int .i64 a, .int .i64 b] 54 (0, 0))).alloc (.cells #[.pointer none, .slice none 0 0] 85 (0, 0)) = w2 := hw2
  rw [hW] at H
  obtain ⟨g0, g1, _⟩ := H
  clear hW
  have c0 : w2.cell? ⟨w.heap.size, 0, none⟩ = some (.string wd) := (Lib.cell_of_heap g0 0).trans rfl
  have c1 : w2.cell? ⟨w.heap.size, 1, none⟩ = some (.int .i64 n) := (Lib.cell_of_heap g0 1).trans rfl
  have c2 : w2.cell? ⟨w.heap.size + 1, 0, none⟩ = some (.int .i64 (numsT a b 0)) := (Lib.cell_of_heap g1 0).trans rfl
  have c3 : w2.cell? ⟨w.heap.size + 1, 1, none⟩ = some (.int .i64 (numsT a b 1)) := (Lib.cell_of_heap g1 1).trans rfl
  have hE2 := hE.below hbl hz8
  have hI := numsT_i64 ha hb
  clear hw2
  go_upto_region 3 with (go_at_call 39; refine (wstring _ _ _ wd _ hB (by simp; omega) (by omega)).mono ?_; rintro e1 w3 ⟨rfl, hB3, hb3⟩)
  have k1 : w3.cell? ⟨w.heap.size, 1, none⟩ = some (.int .i64 n) := (hb3.cell (p := ⟨w.heap.size, 1, none⟩) (by show w.heap.size < w.heap.size + 2; omega)).trans c1
  have ck : ∀ k, k < 2 → w3.cell? ⟨w.heap.size + 1, k, none⟩ = some (.int .i64 (numsT a b k)) := by
    intro k hk
    have e := hb3.cell (p := ⟨w.heap.size + 1, k, none⟩) (by show w.heap.size + 1 < w.heap.size + 2; omega)
    match k, hk with
    | 0, _ => exact e.trans c2
    | 1, _ => exact e.trans c3
  have hz3 := hb3.size
  have hbw3 : Below w.heap.size w w3 := hbl.trans (hb3.mono (by omega))
  have hE3 := hE2.below hb3 (by omega)
  have HI := Lib.hid hI
  have Hw := Lib.hid hw
  clear c0 c1 c2 c3 hB hbl hE2 hI g0 g1 hb3 ha hb hw
  go_wp2
  go_loopw [15] (fun i wr => ∃ k : Nat, k ≤ n ∧ i = .int .i64 k ∧ Bd (w.heap.size + 2) (w.heap.size + 2) (wd.data.toList ++ tailT (numsT a b) k) wr ∧ Below (w.heap.size + 2) w3 wr)
    (fun i _ => n - (intOf i).toNat)
  case atStart => exact ⟨0, Nat.zero_le _, rfl, by simpa [tailT] using hB3, Below.refl _ _⟩
  case round =>
    obtain ⟨k, hk, rfl, hB, hr⟩ := hrel
    have hzr := hr.size
    have HB := Lib.hid hB
    clear hB
    by_cases hlt : k < n
    · have hk2 : k < 2 := by omega
      have h1 := (hr.cell (p := ⟨w.heap.size + 1, k, none⟩) (by show w.heap.size + 1 < w.heap.size + 2; omega)).trans (ck k hk2)
      obtain ⟨x, Hx⟩ : ∃ x, Hid (x = numsT a b k) := ⟨_, Lib.hid rfl⟩
      rw [← Hx.out] at h1
      have hx : I64 x := by rw [Hx.out]; exact HI.out k
      have k0 : (0 : Int) ≤ (k : Int) := Int.natCast_nonneg _
      have k1 : (k : Int) < (n : Int) := by omega
      have hd : decide ((k : Int) < (n : Int)) = true := by simp; omega
      have hEr := hE3.below hr (by omega)
      have hlen := dg_size hx
      clear ck
      go_wp2_with (first
        | (go_at_call 31; refine (itoaB x hx _ hEr).mono ?_; rintro e1 w4 ⟨rfl, hb4⟩)
        | (go_at_call 39; refine (wstring (w.heap.size + 2) (w.heap.size + 2) (wd.data.toList ++ tailT (numsT a b) k) _ _ (HB.out.later hb4) (by have e1 := tailT_len HI.out k; have e2 := Hw.out; have e3 : wd.data.toList.length = wd.size := Array.length_toList; simp only [List.length_append, ByteArray.size_append, show (ByteArray.mk #[32]).size = 1 from rfl]; omega) (by have := hb4.size; omega)).mono ?_; rintro e2 w5 ⟨rfl, hB5, hb5⟩))
      go_roundw
      case rel =>
        refine ⟨k + 1, by omega, by go_num, ?_, (hr.trans (hb4.mono (by omega))).trans hb5⟩
        have e : wd.data.toList ++ tailT (numsT a b) (k + 1) = (wd.data.toList ++ tailT (numsT a b) k) ++ ((⟨#[32]⟩ : ByteArray) ++ dg x).data.toList := by
          rw [Hx.out]
          simp [tailT, dg]
        rw [e]
        exact hB5
      case measure => simp [intOf]; omega
    · obtain rfl : k = n := by omega
      have hd : decide ((k : Int) < (k : Int)) = false := by simp
      clear ck
      go_wp2_with (go_at_call 41; refine (text_any (w.heap.size + 2) (w.heap.size + 2) _ _ HB.out (by omega)).mono ?_; rintro e1 w4 ⟨rfl, hb4⟩)
      go_ret
      exact ⟨rfl, (hbw3.trans (hr.mono (by omega))).trans (hb4.mono (by omega))⟩
end Go.Proofs.YtmadabecpgjpjaaDoor
