/- The plain side: words between blanks, decimal numerals. No program and no memory. -/
import Derived.Lib.Split
import Derived.Lib.CountLaws
import Derived.Lib.SplitLaws
import Derived.Lib.AtoiAll
import Derived.Lib.ItoaNum
import Derived.Lib.Join
namespace Go.Proofs.YtmadabecpgjpjaaDoor

/-- The words between blanks. -/
def cutW : List UInt8 → List (List UInt8)
  | [] => [[]]
  | c :: r => if c = 32 then [] :: cutW r else (c :: (cutW r).headD []) :: (cutW r).tail

def NoBlank (l : List UInt8) : Prop := ∀ c ∈ l, c ≠ 32

theorem cutW_none : ∀ {s : List UInt8}, NoBlank s → cutW s = [s]
  | [], _ => rfl
  | c :: r, h => by
    have hc : c ≠ 32 := h c (by simp)
    have hr : NoBlank r := fun x hx => h x (by simp [hx])
    rw [cutW, if_neg hc, cutW_none hr]
    rfl

theorem cutW_app : ∀ {a : List UInt8} (b : List UInt8), NoBlank a → cutW (a ++ 32 :: b) = a :: cutW b
  | [], b, _ => by simp [cutW]
  | c :: r, b, h => by
    have hc : c ≠ 32 := h c (by simp)
    have hr : NoBlank r := fun x hx => h x (by simp [hx])
    rw [List.cons_append, cutW, if_neg hc, cutW_app b hr]
    rfl

theorem cutW_ne (s : List UInt8) : cutW s ≠ [] := by
  cases s with
  | nil => simp [cutW]
  | cons c r => unfold cutW; split <;> simp

theorem noBlank_cutW : ∀ (s : List UInt8), ∀ w ∈ cutW s, NoBlank w
  | [], w, h => by simp [cutW] at h; subst h; intro c hc; cases hc
  | c :: r, w, h => by
    have ih := noBlank_cutW r
    unfold cutW at h
    split at h
    · rcases List.mem_cons.1 h with rfl | h
      · intro c hc; cases hc
      · exact ih w h
    · rename_i hc
      have hne := cutW_ne r
      cases hr : cutW r with
      | nil => exact absurd hr hne
      | cons x xs =>
        rw [hr] at h ih
        rcases List.mem_cons.1 h with rfl | h
        · intro d hd
          rcases List.mem_cons.1 hd with rfl | hd
          · exact hc
          · exact ih x (by simp) d hd
        · exact ih w (by simp; exact .inr h)

theorem join_cons {x : List UInt8} {xs : List (List UInt8)} (h : xs ≠ []) (sep : List UInt8) : Lib.join (x :: xs) sep = x ++ sep ++ Lib.join xs sep := by
  cases xs with
  | nil => exact absurd rfl h
  | cons y ys => simp [Lib.join, List.intercalate, List.intersperse]

theorem join_cutW : ∀ (s : List UInt8), Lib.join (cutW s) [32] = s
  | [] => rfl
  | c :: r => by
    have ih := join_cutW r
    have hne := cutW_ne r
    unfold cutW
    split
    · rename_i hc
      rw [join_cons hne, ih, hc]; rfl
    · cases hr : cutW r with
      | nil => exact absurd hr hne
      | cons x xs =>
        rw [hr] at ih
        cases xs with
        | nil => simp [Lib.join, List.intercalate, List.intersperse] at ih ⊢; exact ih
        | cons y ys =>
          rw [join_cons (by simp)] at ih
          simp only [List.headD_cons, List.tail_cons]
          rw [join_cons (by simp), List.cons_append, List.cons_append, ih]

theorem cutW_join : ∀ {ws : List (List UInt8)}, ws ≠ [] → (∀ w ∈ ws, NoBlank w) → cutW (Lib.join ws [32]) = ws
  | [], h, _ => absurd rfl h
  | [x], _, h => by
    have : Lib.join [x] [32] = x := by simp [Lib.join, List.intercalate, List.intersperse]
    rw [this, cutW_none (h x (by simp))]
  | x :: y :: r, _, h => by
    rw [join_cons (by simp), List.append_assoc, List.singleton_append, cutW_app _ (h x (by simp)), cutW_join (by simp) (fun w hw => h w (by simp at hw ⊢; exact .inr hw))]

/-- The library's words are these. -/
theorem splitK_cutW : ∀ (n fuel : Nat) (s : List UInt8), s.length ≤ n → s.length < fuel → Lib.splitK [32] 0 (Lib.countFrom [32] fuel s) s = cutW s
  | n, 0, s, _, h => by omega
  | n, fuel + 1, s, hn, hf => by
    unfold Lib.countFrom
    have e1 := Lib.index_one s 32
    by_cases hm : Lib.index s [32] = -1
    · have hno : NoBlank s := by
        intro c hc e
        subst e
        obtain ⟨k, hk⟩ := List.getElem?_of_mem hc
        exact Lib.indexByte_none (e1 ▸ hm) k hk
      rw [if_pos (beq_iff_eq.2 hm), cutW_none hno]
      rfl
    · have hge := Lib.index_ge s [32]
      obtain ⟨i, hi⟩ : ∃ i : Nat, Lib.index s [32] = i := ⟨(Lib.index s [32]).toNat, by omega⟩
      have hm' : ¬ (Lib.index s [32] == -1) = true := fun e => hm (beq_iff_eq.1 e)
      obtain ⟨h1, h2⟩ := Lib.indexByte_some (e1 ▸ hi)
      have hlt : i < s.length := by
        have := List.getElem?_eq_some_iff.1 h1
        exact this.1
      have hs : s = s.take i ++ 32 :: s.drop (i + 1) := by
        have h3 := (List.getElem?_eq_some_iff.1 h1).2
        conv => lhs; rw [← List.take_append_drop i s, List.drop_eq_getElem_cons hlt, h3]
      have hno : NoBlank (s.take i) := by
        intro c hc e
        subst e
        obtain ⟨k, hk⟩ := List.getElem?_of_mem hc
        rw [List.getElem?_take] at hk
        split at hk
        · exact h2 k (by omega) hk
        · cases hk
      rw [if_neg hm', hi, Nat.add_comm 1]
      unfold Lib.splitK
      rw [if_neg hm', hi]
      have e2 : ((i : Int).toNat + [(32 : UInt8)].length) = i + 1 := by simp
      rw [e2, show (i : Int).toNat + 0 = i from by simp]
      have hd : (s.drop (i + 1)).length = s.length - (i + 1) := List.length_drop
      rw [splitK_cutW (n - 1) fuel (s.drop (i + 1)) (by omega) (by omega)]
      conv => rhs; rw [hs]
      rw [cutW_app _ hno]

theorem splitB_words (s : ByteArray) : (Lib.splitB ⟨#[32]⟩ 0 (Lib.countB s ⟨#[32]⟩) s).map (fun x => x.data.toList) = cutW s.data.toList := by
  rw [Lib.splitB_data]
  show Lib.splitK [32] 0 (Lib.countFrom [32] (s.data.toList.length + 1) s.data.toList) s.data.toList = _
  exact splitK_cutW _ _ _ (Nat.le_refl _) (by omega)

/-! ### Numerals -/

def isDig (c : UInt8) : Prop := 48 ≤ c.toNat ∧ c.toNat ≤ 57

theorem dig_ofNat {u : Nat} (h : u < 10) : (UInt8.ofNat (48 + u)).toNat = 48 + u := by
  rw [UInt8.toNat_ofNat']
  omega

theorem decDigits_dig (u : Nat) : ∀ c ∈ Lib.decDigits u, isDig c := by
  induction u using Nat.strongRecOn with
  | _ u ih =>
    intro c hc
    rw [Lib.decDigits] at hc
    split at hc
    · rename_i h
      rw [List.mem_singleton.1 hc, isDig, dig_ofNat h]; omega
    · rename_i h
      rcases List.mem_append.1 hc with hc | hc
      · exact ih (u / 10) (by omega) c hc
      · rw [List.mem_singleton.1 hc, isDig, dig_ofNat (by omega)]; omega

theorem decDigits_ne (u : Nat) : Lib.decDigits u ≠ [] := by
  rw [Lib.decDigits]; split <;> simp

theorem parseUint10_app : ∀ (l : List UInt8) (acc u : Nat) (r : List UInt8), Lib.parseUint10 acc l = .ok u → Lib.parseUint10 acc (l ++ r) = Lib.parseUint10 u r
  | [], acc, u, r, h => by
    simp only [Lib.parseUint10] at h
    injection h with h
    subst h; rfl
  | c :: l, acc, u, r, h => by
    simp only [Lib.parseUint10] at h
    split at h
    · rename_i h1
      split at h
      · cases h
      · rename_i h2
        split at h
        · cases h
        · rename_i h3
          rw [List.cons_append, Lib.parseUint10, if_pos h1, if_neg h2, if_neg h3]
          exact parseUint10_app l _ u r h
    · cases h

theorem parseUint10_decDigits (u : Nat) (hu : u < 18446744073709551616) : Lib.parseUint10 0 (Lib.decDigits u) = .ok u := by
  induction u using Nat.strongRecOn with
  | _ u ih =>
    rw [Lib.decDigits]
    split
    · rename_i h
      rw [Lib.parseUint10, dig_ofNat h, if_pos (by omega), if_neg (by omega), if_neg (by omega)]
      simp [Lib.parseUint10]
    · rename_i h
      rw [parseUint10_app _ 0 _ _ (ih (u / 10) (by omega) (by omega)), Lib.parseUint10, dig_ofNat (by omega), if_pos (by omega), if_neg (by omega), if_neg (by omega)]
      simp only [Lib.parseUint10]
      congr 1
      omega

theorem parseMag_decDigits (u : Nat) (hu : u < 18446744073709551616) : Lib.parseMag (Lib.decDigits u) = .ok u := by
  unfold Lib.parseMag
  rw [if_neg (decDigits_ne u)]
  exact parseUint10_decDigits u hu

/-- strconv.Atoi of strconv.Itoa's text. -/
theorem atoi_itoa (n : Int) (h0 : -9223372036854775808 ≤ n) (h1 : n ≤ 9223372036854775807) : Lib.atoiAll (Lib.itoa n) = .ok n := by
  unfold Lib.itoa
  split
  · rename_i hn
    simp only [Lib.atoiAll]
    rw [if_pos (.inr rfl), parseMag_decDigits _ (by omega)]
    simp only []
    rw [if_neg (by intro h; exact h.1 rfl), if_neg (by omega), if_pos (show UInt8.toNat 45 = 45 from rfl)]
    congr 1
    omega
  · rename_i hn
    cases hd : Lib.decDigits n.toNat with
    | nil => exact absurd hd (decDigits_ne _)
    | cons c r =>
      have hc := decDigits_dig n.toNat c (by rw [hd]; simp)
      unfold isDig at hc
      simp only [Lib.atoiAll]
      rw [if_neg (by omega), ← hd, parseMag_decDigits _ (by omega)]
      simp only []
      rw [if_neg (by omega), if_neg (by omega), if_neg (by omega)]
      congr 1
      omega

theorem itoa_ne (n : Int) : Lib.itoa n ≠ [] := by
  unfold Lib.itoa; split
  · simp
  · exact decDigits_ne _

/-- The signs of a numeral. -/
theorem itoa_signs (n : Int) : ∀ c ∈ Lib.itoa n, c.toNat = 45 ∨ isDig c := by
  intro c hc
  unfold Lib.itoa at hc
  split at hc
  · rcases List.mem_cons.1 hc with rfl | hc
    · exact .inl rfl
    · exact .inr (decDigits_dig _ c hc)
  · exact .inr (decDigits_dig _ c hc)

theorem itoa_noBlank (n : Int) : NoBlank (Lib.itoa n) := by
  intro c hc e
  rcases itoa_signs n c hc with h | h
  · subst e; simp at h
  · subst e; simp [isDig] at h

theorem itoa_inj {a b : Int} (ha0 : -9223372036854775808 ≤ a) (ha1 : a ≤ 9223372036854775807) (hb0 : -9223372036854775808 ≤ b) (hb1 : b ≤ 9223372036854775807)
    (h : Lib.itoa a = Lib.itoa b) : a = b := by
  have h1 := atoi_itoa a ha0 ha1
  rw [h, atoi_itoa b hb0 hb1] at h1
  injection h1 with h1
  exact h1.symm

theorem decDigits_len (u : Nat) (hu : u < 18446744073709551616) : (Lib.decDigits u).length ≤ 20 := by
  rw [Lib.decDigits_length]
  by_cases h : u = 0
  · subst h; rw [Lib.nDigits_small (by omega)]; omega
  · have := Lib.numDigits_eq u (by omega) hu
    split at this <;> omega

theorem itoa_len (n : Int) (h0 : -9223372036854775808 ≤ n) (h1 : n ≤ 9223372036854775807) : (Lib.itoa n).length ≤ 21 := by
  unfold Lib.itoa
  split
  · have := decDigits_len n.natAbs (by omega); simp; omega
  · have := decDigits_len n.toNat (by omega); omega
end Go.Proofs.YtmadabecpgjpjaaDoor
