/- What every call below may lean on: the library's variables hold what the row lists. The library's own functions, each by one contract. -/
import Derived.Test.YtmadabecpgjpjaaDoorShelf
import Derived.WalkKit
import Derived.WalkSmall
import Derived.Sort.Grow
import Derived.Shelf.Strconv.Itoa3
import Derived.Lib.AtoiErrMem
import Derived.Test.YtmadabecpgjpjaaDoorMath
namespace Go.Proofs.YtmadabecpgjpjaaDoor
open Go.RowKit

/-- What the listed variables hold, and that they lie ahead of block 8. -/
structure Env (w : World) : Prop where
  maxLen : ∃ m, w.cell? ⟨2, 0, none⟩ = some (.int .i64 m)
  tab : Lib.TabIs Tryd.prog w "internal/strconv.uint64pow10" .u64 Lib.pow10Tab
  esyn : ∃ tp p, w.var? Tryd.prog "strconv.ErrSyntax" = some #[.iface tp p]
  erng : ∃ tp p, w.var? Tryd.prog "strconv.ErrRange" = some #[.iface tp p]
  size : 8 ≤ w.heap.size

theorem gTab : Tryd.prog.globalNamed "internal/strconv.uint64pow10" = some 3 := by kernel_rfl
theorem gSyn : Tryd.prog.globalNamed "strconv.ErrSyntax" = some 0 := by kernel_rfl
theorem gRng : Tryd.prog.globalNamed "strconv.ErrRange" = some 1 := by kernel_rfl

theorem Env.below {B : Nat} {w w' : World} (h : Env w) (hb : Below B w w') (hB : 8 ≤ B) : Env w' :=
  ⟨(by obtain ⟨m, hm⟩ := h.maxLen; exact ⟨m, (hb.cell (p := ⟨2, 0, none⟩) (by show 2 < B; omega)).trans hm⟩),
    var?_below hb gTab (by omega) h.tab,
    (by obtain ⟨t, p, e⟩ := h.esyn; exact ⟨t, p, var?_below hb gSyn (by omega) e⟩),
    (by obtain ⟨t, p, e⟩ := h.erng; exact ⟨t, p, var?_below hb gRng (by omega) e⟩),
    Nat.le_trans h.size hb.size⟩

theorem below_grow (w : World) (k : Nat) (os : Array Obj) : Below w.heap.size w (Sort.grow (w.drewN k) os) :=
  ⟨rfl, rfl, rfl, by show w.heap.size ≤ (w.heap ++ os).size; simp, fun j hj => by show (w.heap ++ os)[j]? = w.heap[j]?; rw [Array.getElem?_append_left hj]⟩

/-- strconv.Itoa. -/
theorem itoa_call (n : Int) (h0 : -9223372036854775808 ≤ n) (h1 : n ≤ 9223372036854775807) (w : World) (hE : Env w) :
    Calls Tryd.prog 31 #[.int .i64 n] w fun e w' => e = .returned (.string ⟨(Lib.itoa n).toArray⟩) ∧ Below w.heap.size w w' :=
  (Tryd.strconv_Itoa n h0 h1 w hE.tab).mono fun e w' ⟨he, k, os, hw⟩ => ⟨he, by subst hw; exact below_grow w k os⟩

/-- strings.Split at one blank. -/
theorem split_call (s : ByteArray) (w : World) (hE : Env w) (hs : s.size < 4294967281) :
    Calls Tryd.prog 25 #[.string s, .string ⟨#[32]⟩] w fun e w' =>
      e = .returned (.slice (some ⟨w.heap.size, 0, none⟩) (Lib.countB s ⟨#[32]⟩ + 1) (Lib.countB s ⟨#[32]⟩ + 1)) ∧
      w' = w.alloc (.cells ((Lib.splitB ⟨#[32]⟩ 0 (Lib.countB s ⟨#[32]⟩) s).map Value.string).toArray 9) := by
  obtain ⟨m, hm⟩ := hE.maxLen
  exact Tryd.strings_Split s ⟨#[32]⟩ m w hs hm (by decide)

/-- What strconv.Atoi hands back: the number, and whether there is an error. -/
def atoiV (l : List UInt8) : Int × Bool :=
  match Lib.atoiAll l with
  | .ok v => (v, false)
  | .range => (Lib.atoiSat l, true)
  | _ => (0, true)

/-- An error, or none. -/
def ErrIs (v : Value) (b : Bool) : Prop := if b then ∃ t x, v = .iface t (.pointer (some x)) else v = .nilIface

/-- strconv.Atoi. -/
theorem atoi_call (s : ByteArray) (w : World) (hE : Env w) (hs : s.size ≤ 281474976710656) :
    Calls Tryd.prog 26 #[.string s] w fun e w' => ∃ err, e = .returned (.tuple #[.int .i64 (atoiV s.data.toList).1, err]) ∧ ErrIs err (atoiV s.data.toList).2 ∧ Below w.heap.size w w' := by
  unfold atoiV
  cases h : Lib.atoiAll s.data.toList with
  | ok v =>
    refine (Tryd.strconv_Atoi_ok s (by omega) v h w).mono fun e w' ⟨he, hw⟩ => ⟨_, he, rfl, ?_⟩
    rcases hw with rfl | ⟨t, rfl⟩
    · exact Below.refl _ _
    · exact Lib.bytesWorld_below w 5 t
  | range =>
    obtain ⟨tp, p, hv⟩ := hE.erng
    exact (Tryd.strconv_Atoi_range_var s hs h tp p w hv).mono fun e w' ⟨N, he, _, _, hb⟩ => ⟨_, he, ⟨_, _, rfl⟩, hb⟩
  | _ =>
    obtain ⟨tp, p, hv⟩ := hE.esyn
    exact (Tryd.strconv_Atoi_syntax_var s hs h tp p w hv).mono fun e w' ⟨N, he, _, _, hb⟩ => ⟨_, he, ⟨_, _, rfl⟩, hb⟩
end Go.Proofs.YtmadabecpgjpjaaDoor
