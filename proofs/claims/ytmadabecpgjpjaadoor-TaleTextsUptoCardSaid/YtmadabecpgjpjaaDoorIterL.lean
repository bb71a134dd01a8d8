/- strings.Lines: its iterator's contract. -/
import Derived.Test.YtmadabecpgjpjaaDoorIterC
import Derived.Test.YtmadabecpgjpjaaDoorLinesP
import Derived.RangeFuncBox
namespace Go.Proofs.YtmadabecpgjpjaaDoor
open Go Go.RowKit Go.Shelf
attribute [local go_sem] Oper.semAt_some

/-- A text that is not too long. -/
abbrev Ln := { b : ByteArray // b.size ≤ 131072 }
theorem linesN_more : ∀ (k : Nat) (l : List UInt8), l.length ≤ k → linesN k l = linesN l.length l
  | 0, l, h => by
    obtain rfl : l = [] := List.eq_nil_of_length_eq_zero (by omega)
    rfl
  | k + 1, [], _ => by simp [linesN]
  | k + 1, c :: r, h => by
    have hl := cutN_less (l := c :: r) (by simp)
    simp only [List.length_cons] at h hl
    have e1 := linesN_more k (cutN (c :: r)).2 (by omega)
    have e2 := linesN_more r.length (cutN (c :: r)).2 (by omega)
    simp only [linesN, List.length_cons]
    rw [e1, e2]
/-- The lines of a text, each with its newline. -/
def linesL (l : List UInt8) : List (List UInt8) := linesN l.length l
theorem linesL_nil : linesL [] = [] := rfl
theorem linesL_cons {l : List UInt8} (h : l ≠ []) : linesL l = (cutN l).1 :: linesL (cutN l).2 := by
  cases l with
  | nil => exact absurd rfl h
  | cons c r =>
    have hl := cutN_less (l := c :: r) (by simp)
    simp only [List.length_cons] at hl
    unfold linesL
    rw [← linesN_more r.length (cutN (c :: r)).2 (by omega)]
    rfl
theorem cutN_len (l : List UInt8) : (cutN l).1.length ≤ l.length ∧ (cutN l).2.length ≤ l.length := by
  have := congrArg List.length (cutN_app l)
  simp only [List.length_append] at this
  omega
theorem linesL_len : ∀ (k : Nat) (l : List UInt8), l.length ≤ k → (linesL l).length ≤ l.length
  | 0, l, h => by
    obtain rfl : l = [] := List.eq_nil_of_length_eq_zero (by omega)
    simp [linesL_nil]
  | k + 1, l, h => by
    by_cases hl : l = []
    · subst hl
      simp [linesL_nil]
    · have h1 := cutN_less hl
      rw [linesL_cons hl, List.length_cons]
      have := linesL_len k (cutN l).2 (by omega)
      omega
/-- What a text has left, as lines under a bound. -/
def linesB : (k : Nat) → (l : List UInt8) → l.length ≤ 131072 → List Ln
  | 0, _, _ => []
  | k + 1, l, h => if l = [] then [] else ⟨⟨(cutN l).1.toArray⟩, by have := (cutN_len l).1; show (cutN l).1.toArray.size ≤ _; simp; omega⟩ :: linesB k (cutN l).2 (by have := (cutN_len l).2; omega)
theorem linesB_val : ∀ (k : Nat) (l : List UInt8) (h : l.length ≤ 131072), l.length ≤ k → (linesB k l h).map (fun b => b.1.data.toList) = linesL l
  | 0, l, _, h => by
    obtain rfl : l = [] := List.eq_nil_of_length_eq_zero (by omega)
    rfl
  | k + 1, l, hb, h => by
    by_cases hl : l = []
    · subst hl
      simp [linesB, linesL_nil]
    · have h1 := cutN_less hl
      rw [linesL_cons hl]
      simp only [linesB, if_neg hl, List.map_cons]
      rw [linesB_val k _ _ (by omega)]

/-- The text in the iterator's own variable; how long it is. -/
def boxLen (Bn : Nat) (W : World) : Nat := match W.cell? ⟨Bn, 0, none⟩ with
  | some (.string s) => s.size
  | _ => 0
theorem boxLen_of {Bn : Nat} {W : World} {s : ByteArray} (h : Boxed W Bn 9 (.string s)) : boxLen Bn W = s.size := by
  unfold boxLen
  rw [h.cell]

theorem Tryd.lines_in (F : Fence) (n : Nat) (h28 : F.fn 28) (hro : F.round = none) (s : ByteArray) (w : World) :
    CallsIn F n Tryd.prog 28 #[.string s] w fun e w' => e = .returned (.func (.func 45) #[] #[.pointer (some ⟨w.heap.size, 0, none⟩)]) ∧ w' = w.alloc (.cells #[.string s] 9) := by
  refine callsIn_of_wp Tryd.func28 rfl h28 ?_ hro
  simp only [Tryd.ntmps28, List.size_toArray, List.length_cons, List.length_nil, Nat.reduceAdd, Nat.reduceSub, Array.replicate_succ, Array.replicate_zero, List.push_toArray, List.append_toArray, List.nil_append, List.cons_append]
  gi_wp2
  go_ret
  exact ⟨rfl, rfl⟩

theorem bytes_back (s : ByteArray) : (⟨s.data.toList.toArray⟩ : ByteArray) = s := by cases s; simp
theorem ext_take (s : ByteArray) (i : Nat) (h : i ≤ s.size) : s.extract 0 i = ⟨(s.data.toList.take i).toArray⟩ := by
  apply ByteArray.ext
  rw [ByteArray.data_extract]
  apply Array.ext'
  simp
theorem ext_drop (s : ByteArray) (i : Nat) : s.extract i s.size = ⟨(s.data.toList.drop i).toArray⟩ := by
  apply ByteArray.ext
  rw [ByteArray.data_extract]
  apply Array.ext'
  rw [Array.toList_extract]
  simp only [List.extract, ByteArray.size]
  rw [List.take_of_length_le (by simp)]

set_option maxRecDepth 100000 in
set_option maxHeartbeats 2000000 in
theorem Tryd.lines1_in (F : Fence) (n : Nat) (h45 : F.fn 45) (hw : F = Fence.wide) (hro : F.round = none) (hn : 1 ≤ n) (l Bn : Nat) (s : ByteArray) (hs : s.size ≤ 131072) (J Jx : List Ln → World → Prop) (W : World)
    (hJ : AbidesFrom W.heap.size J) (hJs : ∀ pre A v, J pre A → J pre (A.setCell ⟨Bn, 0, none⟩ v))
    (hY : ∀ pre x W1, J pre W1 → pre.length < 131072 → YieldAt F (n - 1) Tryd.prog l #[.string x.1] W1 fun e W' =>
      (e = .returned (.bool true) ∧ J (pre ++ [x]) W' ∧ (W1.heap.size ≤ W'.heap.size ∧ W'.heap[Bn]? = W1.heap[Bn]?)) ∨ (e = .returned (.bool false) ∧ Jx (pre ++ [x]) W'))
    (hb : Boxed W Bn 9 (.string s)) (h0 : J [] W) :
    CallsIn F n Tryd.prog 45 #[.func (.yield l) #[] #[], .pointer (some ⟨Bn, 0, none⟩)] W fun e W' => (∃ v, e = .returned v) ∧
      ((∃ ys, ys.map (fun b : Ln => b.1.data.toList) = linesL s.data.toList ∧ J ys W') ∨ (∃ pre : List Ln, pre.map (fun b => b.1.data.toList) <+: linesL s.data.toList ∧ Jx pre W')) := by
  subst hw
  refine callsIn_of_wp Tryd.func45 rfl h45 ?_ hro
  simp only [Tryd.ntmps45, List.size_toArray, List.length_cons, List.length_nil, Nat.reduceAdd, Nat.reduceSub, Array.replicate_succ, Array.replicate_zero, List.push_toArray, List.append_toArray, List.nil_append, List.cons_append]
  gi_wp2
  gi_loopw [3] (fun _ wr => ∃ (pre : List Ln) (rest : ByteArray), pre.map (fun b => b.1.data.toList) ++ linesL rest.data.toList = linesL s.data.toList ∧ rest.size ≤ s.size ∧ Boxed wr Bn 9 (.string rest) ∧ W.heap.size ≤ wr.heap.size ∧ J pre wr)
    (fun _ wr => boxLen Bn wr)
  case atStart =>
    exact ⟨[], s, rfl, Nat.le_refl _, hb, Nat.le_refl _, h0⟩
  case round =>
    obtain ⟨pre, rest, hx, hr, hbx, hsz, hJr⟩ := hrel
    have hc := hbx.cell
    have hf := hbx.frozen
    by_cases h0 : rest.size = 0
    · have he : rest.data.toList = [] := List.eq_nil_of_length_eq_zero (by rw [Array.length_toList]; exact h0)
      have hx2 : pre.map (fun b => b.1.data.toList) = linesL s.data.toList := by rw [← hx, he]; simp [linesL_nil]
      clear hx he
      gi_wp2
      go_end0
      exact ⟨⟨_, rfl⟩, .inl ⟨pre, hx2, hJr⟩⟩
    · have hne : rest.data.toList ≠ [] := fun e => h0 (by have e1 : rest.data.toList.length = rest.size := Array.length_toList; rw [← e1, e]; rfl)
      have hcons := linesL_cons hne
      have hlen : pre.length < 131072 := by
        have e1 := congrArg List.length hx
        rw [hcons] at e1
        simp only [List.length_append, List.length_map, List.length_cons] at e1
        have e2 := linesL_len _ s.data.toList (Nat.le_refl _)
        have e3 : s.data.toList.length = s.size := Array.length_toList
        omega
      rw [hcons] at hx
      have HX := Lib.hid hx
      clear hx hcons
      have h00 : 0 < rest.size := by omega
      have hrs : rest.data.toList.length = rest.size := Array.length_toList
      rcases cutN_index rest.data.toList with ⟨h1, h2⟩ | ⟨i, h1, h2, h3⟩
      · have hi : Lib.indexByte rest.data.toList (10 : Int).toNat.toUInt8 = -1 := h1
        have H2 := Lib.hid h2
        have HI := Lib.hid hi
        clear h1 h2 hi hrs
        have hbx2 := hbx.set (.string ⟨#[]⟩)
        have hm : boxLen Bn wr = rest.size := boxLen_of hbx
        have HM := Lib.hid hm
        clear hm
        obtain ⟨fn, tmps, assign, body, hy, hR⟩ := hY pre ⟨rest, by omega⟩ (wr.setCell ⟨Bn, 0, none⟩ (.string ⟨#[]⟩)) (hJs _ _ _ hJr) hlen
        dsimp only at hy
        gi_wp2_with (refine ⟨trivial, ?_⟩; gi_at_call 46; refine (callsIn_wide.2 (Tryd.strings_IndexByte rest 10 _)).mono ?_; rw [HI.out]; rintro e w' ⟨rfl, rfl⟩)
        refine hR.mono ?_
        rintro e W3 (⟨rfl, hJ3, hk3, hk4⟩ | ⟨rfl, hJx3⟩)
        · have hb3 : Boxed W3 Bn 9 (.string ⟨#[]⟩) := hk4.trans hbx2
          gi_wp2
          go_roundw
          case rel => exact ⟨pre ++ [⟨rest, by omega⟩], ⟨#[]⟩, by rw [← HX.out, H2.out]; simp, Nat.zero_le _, hb3, by simp at hk3; omega, hJ3⟩
          case measure =>
            rw [HM.out, boxLen_of hb3]
            exact h00
        · gi_wp2
          refine bodyPost_ret (results_none rfl _ _ _) rfl ?_
          exact ⟨⟨_, rfl⟩, .inr ⟨pre ++ [⟨rest, by omega⟩], ⟨linesL [], by rw [← HX.out, H2.out]; simp⟩, hJx3⟩⟩
      · have hi : Lib.indexByte rest.data.toList (10 : Int).toNat.toUInt8 = i := h1
        rw [hrs] at h2
        have H3 := Lib.hid h3
        have HI := Lib.hid hi
        clear h1 h3 hi hrs
        have hm : boxLen Bn wr = rest.size := boxLen_of hbx
        have HM := Lib.hid hm
        clear hm
        have i1 : (0 : Int) ≤ (i : Int) + 1 := by omega
        have i2 : (i : Int) + 1 ≤ (rest.size : Int) := by omega
        gi_wp2_with (refine ⟨trivial, ?_⟩; gi_at_call 46; refine (callsIn_wide.2 (Tryd.strings_IndexByte rest 10 _)).mono ?_; rw [HI.out]; rintro e w' ⟨rfl, rfl⟩)
        gi_region
        obtain ⟨r2, hr2⟩ : ∃ r2 : ByteArray, r2 = rest.extract (i + 1) rest.size := ⟨_, rfl⟩
        obtain ⟨r1, hr1⟩ : ∃ r1 : ByteArray, r1 = rest.extract 0 (i + 1) := ⟨_, rfl⟩
        rw [← hr1, ← hr2]
        have e1 : r1.data.toList = rest.data.toList.take (i + 1) := by rw [hr1, ext_take _ _ (by omega)]
        have e2 : r2.data.toList = rest.data.toList.drop (i + 1) := by rw [hr2, ext_drop]
        have z1 : r1.size ≤ 131072 := by
          have e3 : r1.data.toList.length = r1.size := Array.length_toList
          have e4 : rest.data.toList.length = rest.size := Array.length_toList
          rw [← e3, e1, List.length_take]
          omega
        have z2 : r2.size < rest.size := by
          have e3 : r2.data.toList.length = r2.size := Array.length_toList
          have e4 : rest.data.toList.length = rest.size := Array.length_toList
          rw [← e3, e2, List.length_drop]
          omega
        have hx4 : pre.map (fun b => b.1.data.toList) ++ r1.data.toList :: linesL r2.data.toList = linesL s.data.toList := by rw [← HX.out, H3.out, e1, e2]
        have HX4 := Lib.hid hx4
        clear hr1 hr2 e1 e2 hx4
        generalize hWx : World.drew _ = Wx
        have hJx : J pre Wx := by
          rw [← hWx]
          exact hJ pre (w'.setCell ⟨Bn, 0, none⟩ (.string r2)) _ none (hJs _ _ _ hJr) ⟨rfl, rfl, rfl, Nat.le_refl _, fun _ _ _ => rfl⟩ (fun r e => by cases e)
        have hbx2 : Boxed Wx Bn 9 (.string r2) := by rw [← hWx]; exact hbx.set _
        have hsx : Wx.heap.size = w'.heap.size := by rw [← hWx]; simp
        clear hWx
        obtain ⟨fn, tmps, assign, body, hy, hR⟩ := hY pre ⟨r1, z1⟩ Wx hJx hlen
        dsimp only at hy
        gi_wp2
        refine hR.mono ?_
        rintro e W3 (⟨rfl, hJ3, hk3, hk4⟩ | ⟨rfl, hJx3⟩)
        · have hb3 : Boxed W3 Bn 9 (.string r2) := hk4.trans hbx2
          gi_wp2
          go_roundw
          case rel => exact ⟨pre ++ [⟨r1, z1⟩], r2, by rw [← HX4.out]; simp, by omega, hb3, by omega, hJ3⟩
          case measure =>
            rw [HM.out, boxLen_of hb3]
            exact z2
        · gi_wp2
          refine bodyPost_ret (results_none rfl _ _ _) rfl ?_
          exact ⟨⟨_, rfl⟩, .inr ⟨pre ++ [⟨r1, z1⟩], ⟨linesL r2.data.toList, by rw [← HX4.out]; simp⟩, hJx3⟩⟩

/-- What a round keeps of the iterator's own variable. -/
def KpC (Bn : Nat) (W W' : World) : Prop := W.heap.size ≤ W'.heap.size ∧ W'.heap[Bn]? = W.heap[Bn]?
theorem KpC.trans {Bn : Nat} {A B C : World} (h : KpC Bn A B) (k : KpC Bn B C) : KpC Bn A C := ⟨Nat.le_trans h.1 k.1, k.2.trans h.2⟩
theorem Tryd.lines_seq (n Bn : Nat) (hn : 1 ≤ n) (s : ByteArray) (hs : s.size ≤ 131072) (w : World) (hb : Boxed w Bn 9 (.string s)) :
    SeqC Fence.wide n Tryd.prog 45 #[.pointer (some ⟨Bn, 0, none⟩)] Bn (fun x : Ln => #[Value.string x.1]) (KpC Bn)
      (fun ys => ys.map (fun b : Ln => b.1.data.toList) = linesL s.data.toList) (fun pre => pre.map (fun b : Ln => b.1.data.toList) <+: linesL s.data.toList) 131072 w := by
  intro l J Jx W hW hJ _ hJs _ hY h0
  exact Tryd.lines1_in Fence.wide n trivial rfl rfl hn l Bn s hs J Jx W hJ hJs hY ((hW.block Bn hb.lt).trans hb) h0
end Go.Proofs.YtmadabecpgjpjaaDoor
