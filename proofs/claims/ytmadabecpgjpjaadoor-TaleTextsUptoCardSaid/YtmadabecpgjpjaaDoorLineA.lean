/- The law's own line of a setup. -/
import Derived.Test.YtmadabecpgjpjaaDoorDigA
import Derived.BigQuiet
import Derived.Deep.DeepCutAuto
namespace Go.Proofs.YtmadabecpgjpjaaDoor
open Go.RowKit
theorem szlit (l : List UInt8) : (ByteArray.mk l.toArray).size = l.length := by show l.toArray.size = _; simp
/-- A number's text. -/
def dg (n : Int) : ByteArray := ⟨(Lib.itoa n).toArray⟩
structure I64 (n : Int) : Prop where
  lo : -9223372036854775808 ≤ n
  hi : n ≤ 9223372036854775807
theorem dg_size {n : Int} (h : I64 n) : (dg n).size ≤ 21 := by
  have := itoa_len n h.lo h.hi
  show (Lib.itoa n).toArray.size ≤ 21
  simpa using this
theorem dg_call (n : Int) (h : I64 n) (w : World) :
    Calls Tryd.prog 35 #[.int .i64 n] w fun e w' => e = .returned (.string (dg n)) ∧ Below w.heap.size w w' := digits_call n h.lo h.hi w

/-- A slice of ints: what its cells hold. -/
def IntsAt (w : World) (p : Option Addr) (es : List Int) : Prop :=
  es = [] ∨ ∃ b o, p = some ⟨b, o, none⟩ ∧ b < w.heap.size ∧ ∀ j, j < es.length → w.cell? ⟨b, o + j, none⟩ = some (.int .i64 (es.getD j 0))

theorem IntsAt.below {B : Nat} {w w' : World} {p : Option Addr} {es : List Int} (h : IntsAt w p es) (hb : Below B w w') (hB : w.heap.size ≤ B) : IntsAt w' p es := by
  rcases h with h | ⟨b, o, rfl, hlt, hc⟩
  · exact .inl h
  · exact .inr ⟨b, o, rfl, Nat.lt_of_lt_of_le hlt hb.size, fun j hj => (hb.cell (p := ⟨b, o + j, none⟩) (by show b < B; omega)).trans (hc j hj)⟩

/-- The words ahead of the edges. -/
def headL (d e wt lo hi mo : Int) : List UInt8 :=
  [100, 111, 110, 111, 114, 115, 32] ++ (Lib.itoa d ++ ([32, 101, 110, 111, 117, 103, 104, 32] ++ (Lib.itoa e ++ ([32, 119, 97, 105, 116, 32] ++ (Lib.itoa wt ++ ([32, 108, 111, 119, 32] ++ (Lib.itoa lo ++
  ([32, 104, 105, 103, 104, 32] ++ (Lib.itoa hi ++ ([32, 109, 111, 115, 116, 32] ++ (Lib.itoa mo ++ [32, 101, 100, 103, 101, 115])))))))))))
def tailL (es : List Int) : List UInt8 := es.flatMap fun x => 32 :: Lib.itoa x
theorem tailL_snoc (es : List Int) (k : Nat) (h : k < es.length) : tailL (es.take (k + 1)) = tailL (es.take k) ++ 32 :: Lib.itoa (es.getD k 0) := by
  unfold tailL
  rw [List.take_succ_eq_append_getElem h, List.flatMap_append]
  simp [List.getD, List.getElem?_eq_getElem h]

set_option maxRecDepth 100000 in
set_option maxHeartbeats 800000 in
theorem line_any (d e wt lo hi mo : Int) (hd : I64 d) (he : I64 e) (hw : I64 wt) (hl : I64 lo) (hh : I64 hi) (hm : I64 mo) (p : Option Addr) (es : List Int) (c : Nat) (w : World)
    (hes : IntsAt w p es) (h64 : ∀ x ∈ es, I64 x) (hn : es.length ≤ 1048576) :
    Calls Tryd.prog 18 #[.agg #[.int .i64 d, .int .i64 e, .int .i64 wt, .int .i64 lo, .int .i64 hi, .int .i64 mo, .slice p es.length c]] w fun e' w' =>
      e' = .returned (.string ⟨(headL d e wt lo hi mo ++ tailL es).toArray⟩) ∧ Below w.heap.size w w' := by
  have s1 := dg_size hd
  have s2 := dg_size he
  have s3 := dg_size hw
  have s4 := dg_size hl
  have s5 := dg_size hh
  have s6 := dg_size hm
  go_enter Tryd.func18, Tryd.ntmps18
  go_upto_region 1 with fail
  have hS : Below (w.heap.size + 1) (w.alloc (.cells #[.int .i64 d, .int .i64 e, .int .i64 wt, .int .i64 lo, .int .i64 hi, .int .i64 mo, .slice p es.length c] 41)) (w.alloc (.cells #[.int .i64 d, .int .i64 e, .int .i64 wt, .int .i64 lo, .int .i64 hi, .int .i64 mo, .slice p es.length c] 41)).drew := (Below.refl _ _).drew
  generalize hw0 : w.alloc (.cells #[.int .i64 d, .int .i64 e, .int .i64 wt, .int .i64 lo, .int .i64 hi, .int .i64 mo, .slice p es.length c] 41) = w0 at hS ⊢
  have Hw0 := Lib.hid hw0
  have hz : w.heap.size + 1 ≤ w0.heap.size := by rw [← hw0]; simp
  have b0 : ∀ j v, (#[.int .i64 d, .int .i64 e, .int .i64 wt, .int .i64 lo, .int .i64 hi, .int .i64 mo, .slice p es.length c] : Array Value)[j]? = some v → ∀ x : At (Below (w.heap.size + 1) w0), x.w.cell? ⟨w.heap.size, j, none⟩ = some v :=
    fun j v hv x => (x.h.cell (p := ⟨w.heap.size, j, none⟩) (by simp)).trans (by rw [← hw0]; simpa using hv)
  clear hw0
  go_cut [3] (fun v3 wc => ∃ s : ByteArray, v3 = .string s ∧ s.data.toList = headL d e wt lo hi mo ∧ s.size ≤ 200 ∧ Below (w.heap.size + 1) w0 wc)
  case first =>
    have c0 := b0 0 _ rfl
    have c1 := b0 1 _ rfl
    have c2 := b0 2 _ rfl
    have c3 := b0 3 _ rfl
    have c4 := b0 4 _ rfl
    have c5 := b0 5 _ rfl
    have hne : Nonempty (At (Below (w.heap.size + 1) w0)) := ⟨⟨_, hS⟩⟩
    have st : ∀ (x : At (Below (w.heap.size + 1) w0)) (w' : World), Below x.w.heap.size x.w w' → Below (w.heap.size + 1) w0 w' := fun x w' hb => x.h.trans (hb.mono (by have := x.h.size; omega))
    clear b0
    refine area_all (S := Below (w.heap.size + 1) w0) (by kernel_rfl) (by kernel_rfl) hS ?_
    repeat (go_big_quiet_step ((exact at_call (dg_call _ (by assumption) _) (fun e w' h => ⟨h.1, st _ _ h.2⟩))))
    refine wpQuiet_nil ?_
    intro w1 hw1
    go_wp2_with fail
    go_meet
    refine ⟨_, rfl, ?_, ?_, hw1⟩
    · simp [dg, headL]
    · simp only [ByteArray.size_append, szlit, List.length_cons, List.length_nil]; omega
  case rest =>
    obtain ⟨s, rfl, hs, hz1, hb⟩ := hcut
    have Hs := Lib.hid hs
    clear hs
    have hB := hb.size
    have bc : ∀ wr, Below (w.heap.size + 1) w0 wr → wr.cell? ⟨w.heap.size, 6, none⟩ = some (.slice p es.length c) := fun wr hr => b0 6 _ rfl ⟨wr, hr⟩
    have HC := Lib.hid bc
    clear bc b0
    go_wp2
    go_loopw [3, 4] (fun o i wr => ∃ (k : Nat) (s' : ByteArray), k ≤ es.length ∧ i = .int .i64 k ∧ o = .string s' ∧ s'.size ≤ 200 + 22 * k ∧ s'.data.toList = headL d e wt lo hi mo ++ tailL (es.take k) ∧ Below (w.heap.size + 1) w0 wr)
      (fun _ i _ => es.length - (intOf i).toNat)
    case atStart => exact ⟨0, s, Nat.zero_le _, rfl, rfl, by omega, by rw [Hs.out]; simp [tailL], hb⟩
    case round =>
      obtain ⟨k, s', hk, rfl, rfl, hz', hs', hr⟩ := hrel
      have Hs' := Lib.hid hs'
      clear hs'
      have hcell := HC.out wr hr
      have hrB := hr.size
      by_cases hlt : k < es.length
      · rcases hes with h0 | ⟨b, o, rfl, hbl, hcs⟩
        · subst h0; simp at hlt
        have hx := h64 (es.getD k 0) (by simp [List.getD, List.getElem?_eq_getElem hlt])
        have hck : wr.cell? ⟨b, o + k, none⟩ = some (.int .i64 (es.getD k 0)) := by
          rw [hr.cell (p := ⟨b, o + k, none⟩) (by show b < _; omega), ← Hw0.out, ((Below.refl w.heap.size w).alloc (Nat.le_refl _) _).cell (p := ⟨b, o + k, none⟩) hbl]
          exact hcs k hlt
        have sx := dg_size hx
        have Hx : ∃ x, Hid (x = es.getD k 0) := ⟨_, rfl⟩
        obtain ⟨x, Hx⟩ := Hx
        rw [← Hx.out] at hx hck sx
        clear hcs
        have hl1 := tailL_snoc es k hlt
        have Hl1 := Lib.hid hl1
        clear hl1
        go_wp2_with (go_at_call 35; refine (dg_call _ hx _).mono ?_; rintro e1 w1 ⟨rfl, hb1⟩)
        go_roundw
        case rel => exact ⟨k + 1, s' ++ (⟨#[32]⟩ ++ dg x), by omega, by go_num, rfl, by simp only [ByteArray.size_append, show (ByteArray.mk #[32]).size = 1 from rfl]; omega,
          by rw [Hl1.out, ← Hx.out]; simp [Hs'.out, dg], hr.trans (hb1.mono (by omega))⟩
        case measure => simp [intOf]; omega
      · go_wp2
        go_ret
        have hke : k = es.length := by omega
        have hfin : s' = ⟨(headL d e wt lo hi mo ++ tailL es).toArray⟩ := by
          have h1 := Hs'.out
          rw [hke, List.take_length] at h1
          rw [← h1]
        exact ⟨by rw [← hfin]; rfl, by
          have h1 : Below w.heap.size w w0 := by rw [← Hw0.out]; exact (Below.refl _ _).alloc (Nat.le_refl _) _
          exact h1.trans (hr.mono (by omega))⟩
end Go.Proofs.YtmadabecpgjpjaaDoor
