/- deed.Write. -/
import Derived.Test.YtmadabecpgjpjaaDoorDeedF
import Derived.Deep.DeepMust
import Derived.Maps.AppendAt
namespace Go.Proofs.YtmadabecpgjpjaaDoor
open Go.RowKit

/-- The numbers of a setup. -/
def nums (d e wt lo hi mo : Int) : Nat → Int
  | 0 => d | 1 => e | 2 => wt | 3 => lo | 4 => hi | _ => mo
/-- The cells of a setup. -/
def scells (f : Nat → Int) (s : Value) : Array Value := #[.int .i64 (f 0), .int .i64 (f 1), .int .i64 (f 2), .int .i64 (f 3), .int .i64 (f 4), .int .i64 (f 5), s]
theorem scells_at (f : Nat → Int) (s : Value) (k : Nat) (h : k < 6) : (scells f s)[k]? = some (.int .i64 (f k)) := by
  match k, h with
  | 0, _ => rfl
  | 1, _ => rfl
  | 2, _ => rfl
  | 3, _ => rfl
  | 4, _ => rfl
  | 5, _ => rfl
/-- The first words. -/
def wordsA (f : Nat → Int) : Nat → List ByteArray
  | 0 => []
  | k + 1 => wordsA f k ++ [nmB k, dg (f k)]
theorem wordsA_length (f : Nat → Int) : ∀ k, (wordsA f k).length = 2 * k
  | 0 => rfl
  | k + 1 => by simp [wordsA, wordsA_length f k]; omega

theorem itoaB (n : Int) (h : I64 n) (w : World) (hE : Env w) :
    Calls Tryd.prog 31 #[.int .i64 n] w fun e w' => e = .returned (.string (dg n)) ∧ Below w.heap.size w w' := itoa_call n h.lo h.hi w hE

theorem Tryd.info9 : (Tryd.prog.info? 9).map (fun i => (i.zero, i.size, i.bytes)) = some (some (.string ByteArray.empty), 1, 16) := by kernel_rfl

/-- A row of strings, opened. -/
theorem own_open {w : World} {base n : Nat} {v : Value} {xs : List ByteArray} (h : w.ownsRow base 9 1 v n (xs.map Value.string)) (hn : 0 < n) :
    xs.length = n ∧ ∃ g cap, v = .slice (some ⟨g, 0, none⟩) n cap ∧ xs.length ≤ cap ∧ g < w.heap.size ∧ ∀ (j : Nat) x, xs[j]? = some x → w.cell? ⟨g, 0 + j, none⟩ = some (.string x) := by
  have hl : xs.length = n := by have := h.1; simpa using this
  refine ⟨hl, ?_⟩
  have h' := h
  obtain ⟨_, h2⟩ := h
  rcases h2 with ⟨_, h0⟩ | ⟨g, cap, cur, rfl, _, hg, hcap, _, _, _⟩
  · omega
  · refine ⟨g, cap, rfl, by omega, (Array.getElem?_eq_some_iff.1 hg).1, fun j x hx => ?_⟩
    have := h'.cells (g := g) rfl j (.string x) (by simp [hx])
    rw [← this]
    congr 1
    unfold Addr.add
    split <;> simp_all

theorem words_list (f : Nat → Int) (es : List Int) : (wordsA f 6 ++ [nmB 6] ++ es.map dg).length = 13 + es.length := by simp [wordsA_length]; omega

theorem join_len : ∀ (ws : List (List UInt8)) (m : Nat), (∀ w ∈ ws, w.length ≤ m) → (Lib.join ws [32]).length ≤ ws.length * (m + 1)
  | [], _, _ => by simp [Lib.join]
  | [x], m, h => by
    have := h x (by simp)
    have e : Lib.join [x] [32] = x := by simp [Lib.join, List.intercalate, List.intersperse]
    rw [e]
    simp; omega
  | x :: y :: r, m, h => by
    have h1 := h x (by simp)
    have h2 := join_len (y :: r) m (fun w hw => h w (by simp at hw ⊢; exact .inr hw))
    rw [join_cons (by simp)]
    simp only [List.length_append, List.length_cons, List.length_nil] at h2 ⊢
    have e : (r.length + 1 + 1) * (m + 1) = (r.length + 1) * (m + 1) + (m + 1) := by rw [Nat.add_mul]; omega
    omega

theorem nmB_size (k : Nat) : (nmB k).size ≤ 6 := by
  unfold nmB
  split <;> exact by decide
theorem wordsA_size (f : Nat → Int) (hf : ∀ k, k < 6 → I64 (f k)) : ∀ k, k ≤ 6 → ∀ x ∈ wordsA f k, x.size ≤ 21
  | 0, _, x, h => by cases h
  | k + 1, hk, x, h => by
    unfold wordsA at h
    rcases List.mem_append.1 h with h | h
    · exact wordsA_size f hf k (by omega) x h
    · simp at h
      rcases h with rfl | rfl
      · have := nmB_size k; omega
      · exact dg_size (hf k (by omega))
theorem words_size (f : Nat → Int) (hf : ∀ k, k < 6 → I64 (f k)) (es : List Int) (h64 : ∀ x ∈ es, I64 x) : ∀ x ∈ wordsA f 6 ++ [nmB 6] ++ es.map dg, x.size ≤ 21 := by
  intro x hx
  rcases List.mem_append.1 hx with hx | hx
  · rcases List.mem_append.1 hx with hx | hx
    · exact wordsA_size f hf 6 (by omega) x hx
    · rw [List.mem_singleton.1 hx]; have := nmB_size 6; omega
  · obtain ⟨y, hy, rfl⟩ := List.mem_map.1 hx
    exact dg_size (h64 y hy)
theorem words_join (f : Nat → Int) (hf : ∀ k, k < 6 → I64 (f k)) (es : List Int) (h64 : ∀ x ∈ es, I64 x) (hn : es.length ≤ 64) :
    (Lib.join ((wordsA f 6 ++ [nmB 6] ++ es.map dg).map (fun x => x.data.toList)) (⟨#[32]⟩ : ByteArray).data.toList).length ≤ 140737488355328 := by
  have h := join_len ((wordsA f 6 ++ [nmB 6] ++ es.map dg).map (fun x => x.data.toList)) 21 (fun w hw => by
    obtain ⟨x, hx, rfl⟩ := List.mem_map.1 hw
    have := words_size f hf es h64 x hx
    show x.data.toList.length ≤ 21
    rw [Array.length_toList]; exact this)
  have e := words_list f es
  rw [List.length_map, e] at h
  show (Lib.join _ [32]).length ≤ _
  omega

set_option maxRecDepth 100000 in
set_option maxHeartbeats 1600000 in
theorem write_any (f : Nat → Int) (hf : ∀ k, k < 6 → I64 (f k)) (p : Option Addr) (es : List Int) (c : Nat) (w : World) (hE : Env w)
    (hes : IntsAt w p es) (h64 : ∀ x ∈ es, I64 x) (hn : es.length ≤ 64) :
    Calls Tryd.prog 15 #[.agg (scells f (.slice p es.length c))] w fun e' w' =>
      e' = .returned (.tuple #[.string ⟨(Lib.join ((wordsA f 6 ++ [nmB 6] ++ es.map dg).map (·.data.toList)) [32]).toArray⟩, .int .i64 0]) ∧ Below w.heap.size w w' := by
  obtain ⟨i0, hi, hz0, hz1, hz2⟩ := info_parts Tryd.info9
  have hn' : ¬ (64 : Int) < (es.length : Int) := by omega
  unfold scells
  go_enter Tryd.func15, Tryd.ntmps15
  go_wp2_with (go_at_call 30; refine (fields_any _ _).mono ?_; rintro e1 w1 ⟨rfl, rfl⟩)
  generalize hw2 : ((w.alloc (.cells #[.int .i64 (f 0), .int .i64 (f 1), .int .i64 (f 2), .int .i64 (f 3), .int .i64 (f 4), .int .i64 (f 5), .slice p es.length c] 41)).alloc (.cells (fcells w.heap.size) 72)).drew = w2
  have hb2 : Below w.heap.size w w2 := by rw [← hw2]; exact (((Below.refl _ w).alloc (Nat.le_refl _) _).alloc (by simp) _).drew
  have hs2 : w2.heap.size = w.heap.size + 2 := by rw [← hw2]; simp
  have hA : ∀ k, k < 6 → ∀ wr, Below (w.heap.size + 2) w2 wr → wr.cell? ⟨w.heap.size, k, none⟩ = some (.int .i64 (f k)) := fun k hk wr hr =>
    (hr.cell (p := ⟨w.heap.size, k, none⟩) (by simp)).trans (by rw [← hw2]; have := scells_at f (.slice p es.length c) k hk; unfold scells at this; simpa using this)
  have hA6 : ∀ wr, Below (w.heap.size + 2) w2 wr → wr.cell? ⟨w.heap.size, 6, none⟩ = some (.slice p es.length c) := fun wr hr =>
    (hr.cell (p := ⟨w.heap.size, 6, none⟩) (by simp)).trans (by rw [← hw2]; simp)
  have hF : ∀ k, k < 6 → ∀ wr, Below (w.heap.size + 2) w2 wr → wr.cell? ⟨w.heap.size + 1, k * 2, none⟩ = some (.string (nmB k)) ∧ wr.cell? ⟨w.heap.size + 1, k * 2 + 1, none⟩ = some (.pointer (some ⟨w.heap.size, k, none⟩)) := fun k hk wr hr =>
    ⟨(hr.cell (p := ⟨w.heap.size + 1, k * 2, none⟩) (by simp)).trans (by rw [← hw2]; simpa using fcells_word w.heap.size k hk),
     (hr.cell (p := ⟨w.heap.size + 1, k * 2 + 1, none⟩) (by simp)).trans (by rw [← hw2]; simpa using fcells_at w.heap.size k hk)⟩
  clear hw2
  have HA := Lib.hid hA
  have HA6 := Lib.hid hA6
  have HF := Lib.hid hF
  have Hs2 := Lib.hid hs2
  have hs3 : w.heap.size + 2 ≤ w2.heap.size := by omega
  clear hA hA6 hF hs2
  go_loopw [4, 16] (fun o i wr => ∃ k : Nat, k ≤ 6 ∧ i = .int .i64 k ∧ wr.ownsRow (w.heap.size + 2) 9 1 o (2 * k) ((wordsA f k).map Value.string) ∧ Below (w.heap.size + 2) w2 wr)
    (fun _ i _ => 6 - (intOf i).toNat)
  case atStart => exact ⟨0, by omega, rfl, World.ownsRow_nil _ _ _ _, Below.refl _ _⟩
  case round =>
    obtain ⟨k, hk, rfl, hown, hr⟩ := hrel
    have hrB := hr.size
    by_cases hlt : k < 6
    · have hx := hf k hlt
      obtain ⟨c1, c2⟩ := HF.out k hlt wr hr
      have c3 := HA.out k hlt wr hr
      have hd : decide ((k : Int) < 6) = true := by simp; omega
      go_upto_region 7 with fail
      generalize hw3 : wr.alloc (Obj.cells #[Value.string (nmB k), Value.pointer (some { block := w.heap.size, off := k })] 72) = w3
      have hb3 : Below wr.heap.size wr w3 := by rw [← hw3]; exact (Below.refl _ _).alloc (Nat.le_refl _) _
      have hs4 : w3.heap.size = wr.heap.size + 1 := by rw [← hw3]; simp
      have d0 : ∀ x : At (Below (wr.heap.size + 1) w3), x.w.cell? ⟨wr.heap.size, 0, none⟩ = some (.string (nmB k)) := fun x => (x.h.cell (p := ⟨wr.heap.size, 0, none⟩) (by simp)).trans (by rw [← hw3]; simp)
      have d1 : ∀ x : At (Below (wr.heap.size + 1) w3), x.w.cell? ⟨wr.heap.size, 1, none⟩ = some (.pointer (some ⟨w.heap.size, k, none⟩)) := fun x => (x.h.cell (p := ⟨wr.heap.size, 1, none⟩) (by simp)).trans (by rw [← hw3]; simp)
      have d2 : ∀ x : At (Below (wr.heap.size + 1) w3), x.w.cell? ⟨w.heap.size, k, none⟩ = some (.int .i64 (f k)) := fun x => ((hb3.trans (x.h.mono (Nat.le_succ _))).cell (p := ⟨w.heap.size, k, none⟩) (by show w.heap.size < _; omega)).trans c3
      have hEx : ∀ x : At (Below (wr.heap.size + 1) w3), Env x.w := fun x => hE.below ((hb2.trans (hr.mono (by omega))).trans ((hb3.trans (x.h.mono (Nat.le_succ _))).mono (by omega))) hE.size
      have HE := Lib.hid hEx
      have Hs4 := Lib.hid hs4
      have hs5 : wr.heap.size + 1 ≤ w3.heap.size := by omega
      clear hw3 hEx c1 c2 c3 hs4
      have hS : Below (wr.heap.size + 1) w3 w3.drew := (Below.refl _ _).drew
      have hne : Nonempty (At (Below (wr.heap.size + 1) w3)) := ⟨⟨_, hS⟩⟩
      have st : ∀ (x : At (Below (wr.heap.size + 1) w3)) (w' : World), Below x.w.heap.size x.w w' → Below (wr.heap.size + 1) w3 w' := fun x w' hb => x.h.trans (hb.mono (by have := x.h.size; omega))
      refine wp_region_any (by kernel_rfl) ?_
      refine area_move 0 20 u4 rfl rfl rfl rfl rfl (by kernel_rfl) (by kernel_rfl) (by kernel_rfl) (fun _ _ _ h => h) ?_
      simp only [Act.put, List.size_toArray, List.length_cons, List.length_nil, Nat.reduceAdd, Array.replicate_succ, Array.replicate_zero, List.push_toArray, List.nil_append, List.cons_append, List.setIfInBounds_toArray, List.set_cons_zero, List.set_cons_succ]
      refine area_rest (S := Below (wr.heap.size + 1) w3) 8 (by kernel_rfl) (by rfl) hS ?_
      simp only [List.take_succ_cons, List.take_zero, List.drop_succ_cons, List.drop_zero, headF]
      repeat (go_big_quiet_step ((exact at_call (itoaB _ hx _ (HE.out _)) (fun e w' h => ⟨h.1, st _ _ h.2⟩))))
      refine wpQuiet_nil ?_
      intro w4 hw4
      clear d0 d1 d2 st hne hS
      have hs6 := hw4.size
      have hown4 : w4.ownsRow (w.heap.size + 2) 9 1 u4 (2 * k) ((wordsA f k).map Value.string) := own_below hown (hb3.trans (hw4.mono (Nat.le_succ _)))
      go_wp2_with (at_builtin; refine wpList_append_own _ rfl _ _ 56 rfl (w.heap.size + 2) 9 i0 (.string ByteArray.empty) 1 16 Tryd.underlying56 hi hz0 hz1 hz2 rfl (by decide) _ _ _ rfl (hown4.alloc _) ⟨w4.heap.size, 0, none⟩ 2 2 [.string (nmB k), .string (dg (f k))] rfl rfl (cell_two_new _ _ _ _) (by simp [Value.oneCell']) (by unfold maxLen; omega) (by omega) (by simp; omega) ?_; intro v' w5 hown5 hgrow _)
      have hg : Below (w.heap.size + 2) w4 w5 := by
        have h1 : Below (w.heap.size + 2) w4 (w4.alloc (.cells #[.string (nmB k), .string (dg (f k))] 9)) := (Below.refl _ _).alloc (by omega) _
        exact h1.grown hgrow (by simp; omega) (fun j hj => (hown4.lt j hj).1)
      go_roundw
      case rel => exact ⟨k + 1, by omega, by go_num, by simpa [wordsA, Nat.mul_add] using hown5, ((hr.trans (hb3.mono (by omega))).trans (hw4.mono (by omega))).trans hg⟩
      case measure => simp [intOf]; omega
    · obtain rfl : k = 6 := by omega
      go_upto_region 12 with (at_builtin; refine wpList_append_own _ rfl _ _ 56 rfl (w.heap.size + 2) 9 i0 (.string ByteArray.empty) 1 16 Tryd.underlying56 hi hz0 hz1 hz2 rfl (by decide) _ _ _ rfl (hown.alloc _) ⟨wr.heap.size, 0, none⟩ 1 1 [.string (nmB 6)] rfl rfl (cell_one_new _ _ _) (by simp [Value.oneCell']) (by unfold maxLen; omega) (by omega) (by simp; omega) ?_; intro v' w5 hown5 hgrow _; have hg : Below (w.heap.size + 2) w2 w5 := ((hr.alloc (by omega) _).grown hgrow (by simp; omega) (fun j hj => (hown.lt j hj).1)); have c6 := HA6.out w5 hg)
      go_loopw [4, 38] (fun o i wr => ∃ k : Nat, k ≤ es.length ∧ i = .int .i64 k ∧ wr.ownsRow (w.heap.size + 2) 9 1 o (13 + k) ((wordsA f 6 ++ [nmB 6] ++ (es.take k).map dg).map Value.string) ∧ Below (w.heap.size + 2) w2 wr)
        (fun _ i _ => es.length - (intOf i).toNat)
      case atStart => exact ⟨0, by omega, rfl, by simpa using hown5, hg⟩
      case round =>
        clear c6 hgrow hown5 hg hown
        obtain ⟨k, hk, rfl, hown2, hr2⟩ := hrel
        have hrB2 := hr2.size
        by_cases hlt : k < es.length
        · rcases hes with h0 | ⟨b, o, rfl, hbl, hcs⟩
          · subst h0; simp at hlt
          have hx := h64 (es.getD k 0) (by simp [List.getD, List.getElem?_eq_getElem hlt])
          have hck : wr.cell? ⟨b, o + k, none⟩ = some (.int .i64 (es.getD k 0)) := by
            rw [hr2.cell (p := ⟨b, o + k, none⟩) (by show b < _; omega), hb2.cell (p := ⟨b, o + k, none⟩) hbl]
            exact hcs k hlt
          have hE2 : Env wr := hE.below (hb2.trans (hr2.mono (by omega))) hE.size
          have hl1 : (es.take (k + 1)).map dg = (es.take k).map dg ++ [dg (es.getD k 0)] := by
            rw [List.take_succ_eq_append_getElem hlt, List.map_append]; simp only [List.map_cons, List.map_nil, List.getD, List.getElem?_eq_getElem hlt, Option.getD_some]
          have Hl1 := Lib.hid hl1
          clear hl1 hcs
          have Hx : ∃ x, Hid (x = es.getD k 0) := ⟨_, rfl⟩
          obtain ⟨x, Hx⟩ := Hx
          rw [← Hx.out] at hx hck
          have hd : decide ((k : Int) < (es.length : Int)) = true := by simp; omega
          go_wp2_with (first
            | (go_at_call 31; refine (itoaB _ hx _ hE2).mono ?_; rintro e1 w1 ⟨rfl, hb1⟩; have hown3 := own_below hown2 hb1; have hb1s := hb1.size)
            | (at_builtin; refine wpList_append_own _ rfl _ _ 56 rfl (w.heap.size + 2) 9 i0 (.string ByteArray.empty) 1 16 Tryd.underlying56 hi hz0 hz1 hz2 rfl (by decide) _ _ _ rfl (hown3.alloc _) ⟨w1.heap.size, 0, none⟩ 1 1 [.string (dg x)] rfl rfl (cell_one_new _ _ _) (by simp [Value.oneCell']) (by unfold maxLen; omega) (by omega) (by simp; omega) ?_; intro v' w5 hown5 hgrow _))
          have hg : Below (w.heap.size + 2) w2 w5 := (((hr2.trans (hb1.mono (by omega))).alloc (by omega) _).grown hgrow (by simp; omega) (fun j hj => (hown3.lt j hj).1))
          go_roundw
          case rel => exact ⟨k + 1, by omega, by go_num, by rw [Hl1.out, ← Hx.out]; simpa [Nat.add_assoc] using hown5, hg⟩
          case measure => simp [intOf]; omega
        · obtain rfl : k = es.length := by omega
          rw [List.take_length] at hown2
          obtain ⟨hlen, g, cap, hv, hcap, hglt, hcells⟩ := own_open hown2 (by omega)
          have hj := words_join f hf es h64 hn
          have hl := words_list f es
          have jc := Tryd.strings_Join g 0 cap (wordsA f 6 ++ [nmB 6] ++ es.map dg) ⟨#[32]⟩ wr hcells hglt (by omega) hcap hj
          rw [hlen] at jc
          obtain ⟨J, HJ⟩ : ∃ J : ByteArray, Hid (J = ⟨(Lib.join ((wordsA f 6 ++ [nmB 6] ++ es.map dg).map (·.data.toList)) [32]).toArray⟩) := ⟨_, Lib.hid rfl⟩
          have jc2 : Calls Tryd.prog 32 #[.slice (some ⟨g, 0, none⟩) (13 + es.length) cap, .string ⟨#[32]⟩] wr fun e w' => e = .returned (.string J) ∧ Below wr.heap.size wr w' := by rw [HJ.out]; exact jc
          have Jc := Lib.hid jc2
          clear jc jc2 hcells hj hl hlen
          rw [hv]
          clear hv hown2
          go_wp2_with (go_at_call 32; refine Jc.out.mono ?_; rintro e1 w1 ⟨rfl, hb1⟩)
          go_ret2
          exact ⟨by rw [← HJ.out]; rfl, (hb2.trans (hr2.mono (by omega))).trans (hb1.mono (by omega))⟩

set_option maxRecDepth 100000 in
set_option maxHeartbeats 400000 in
theorem write_full (f : Nat → Int) (p : Option Addr) (n c : Nat) (w : World) (hn : 64 < n) :
    Calls Tryd.prog 15 #[.agg (scells f (.slice p n c))] w fun e' w' => e' = .returned (.tuple #[.string ⟨#[]⟩, .int .i64 6]) ∧ Below w.heap.size w w' := by
  have hn' : (64 : Int) < (n : Int) := by omega
  unfold scells
  go_enter Tryd.func15, Tryd.ntmps15
  go_wp2
  go_ret2
  exact ⟨rfl, (Below.refl _ _).alloc (Nat.le_refl _) _⟩
end Go.Proofs.YtmadabecpgjpjaaDoor
