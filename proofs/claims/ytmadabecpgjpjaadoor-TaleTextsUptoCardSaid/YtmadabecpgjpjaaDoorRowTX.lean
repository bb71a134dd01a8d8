/- PROVED: the law TaleTexts answers true for every list of steps of bulk at most 1048576, and the list reads afterwards as it did. CONDITIONS: the bulk, and the row's own (the listed package variables read as listed). -/
import Derived.Test.YtmadabecpgjpjaaDoorStart
import Derived.Test.YtmadabecpgjpjaaDoorTextL
import Derived.Test.YtmadabecpgjpjaaDoorCards
import Derived.Test.YtmadabecpgjpjaaDoorTie
import Derived.Deep.DeepHandedRow
import Derived.Deep.Slices
import Derived.Deep.Fields
namespace Go.Proofs.YtmadabecpgjpjaaDoor.taleTexts
open Go.ChangeShapes Go.WideShapes Go.ChangeAt Go.RowKit Go.ChangeMaps

theorem cells3_23 : Tryd.prog.cellsOf 23 = 3 := by kernel_rfl
theorem bulk_len {H : Type} : ∀ l : List (DataW H), (∀ d ∈ l, 1 ≤ Rows.uptoBulk d) → l.length ≤ Rows.uptoBulkAll l
  | [], _ => by simp [Rows.uptoBulkAll]
  | d :: l, h => by
    have h1 := h d (by simp)
    have h2 := bulk_len l (fun x hx => h x (by simp [hx]))
    simp only [Rows.uptoBulkAll, List.length_cons]
    omega
open Go.Deep in
set_option maxRecDepth 100000 in
/-- STEPS OPENED. -/
theorem open_steps {H : Type} {enc : TypeId × Value → H} {W : World} {base : Nat} {v : Value} {d : DataW H} {p : List MemPlace} (hv : Value.okWide Tryd.prog W .any base 34 v)
    (h : DataW.Trod enc Tryd.prog W 0 (fun _ => true) true 34 v d p) : ∃ (q : Option Addr) (ts : List (Int × Int × Int)) (c : Nat), v = .slice q ts.length c ∧ StepsAt W q ts ∧ (∀ t ∈ ts, I64S t) ∧ ts.length ≤ Rows.uptoBulk d := by
  obtain ⟨a0, len0, cap0, rfl⟩ := okWide_slice Tryd.underlying34 hv
  obtain ⟨fuel, hf⟩ := h
  rcases open_slice Tryd.underlying34 hf with ⟨hcs, _⟩ | ⟨a, len, cap, m, n, D, Pl, hcs, _, hl, _, hm, hx, hi⟩
  · simp [Value.cells] at hcs
    obtain ⟨rfl, rfl, rfl⟩ := hcs
    exact ⟨none, [], 0, rfl, .inl rfl, (fun t ht => by cases ht), Nat.zero_le _⟩
  · simp [Value.cells] at hcs
    obtain ⟨rfl, rfl, rfl⟩ := hcs
    rw [cells3_23] at hi
    have hml : len0 ≤ m := by rw [hm]; split <;> omega
    have key : ∀ i, i < m → ∃ t : Int × Int × Int, I64S t ∧ W.cell? (a.add (i * 3)) = some (.int .i64 t.1) ∧ W.cell? ((a.add (i * 3)).add 1) = some (.int .i64 t.2.1) ∧ W.cell? ((a.add (i * 3)).add 2) = some (.int .i64 t.2.2) ∧ ∃ l, D i = .agg l := by
      intro i him
      obtain ⟨cs', hc, ht'⟩ := hi i him
      obtain ⟨ys, n', _, hy, _, hyl, hf'⟩ := DataW.trod_struct Tryd.underlying23 ht'
      obtain ⟨_, hcl, hat⟩ := World.cells?_some hc
      have ex : ∃ x y z, cs' = [x, y, z] := by
        match cs', hcl with
        | [x, y, z], _ => exact ⟨x, y, z, rfl⟩
      obtain ⟨x, y, z, rfl⟩ := ex
      have ey : ∃ y0 y1 y2, ys = [y0, y1, y2] := by
        match ys, hyl with
        | [y0, y1, y2], _ => exact ⟨y0, y1, y2, rfl⟩
      obtain ⟨y0, y1, y2, rfl⟩ := ey
      have g0 := hf' 0 _ rfl
      have g1 := hf' 1 _ rfl
      have g2 := hf' 2 _ rfl
      simp [cells1_3] at g0 g1 g2
      obtain ⟨n0, e0, _, w0⟩ := DataW.trod_int Tryd.underlying3 g0
      obtain ⟨n1, e1, _, w1⟩ := DataW.trod_int Tryd.underlying3 g1
      obtain ⟨n2, e2, _, w2⟩ := DataW.trod_int Tryd.underlying3 g2
      simp at e0 e1 e2
      subst e0 e1 e2
      have z0 := hat 0 (by decide)
      have z1 := hat 1 (by decide)
      have z2 := hat 2 (by decide)
      simp only [Prod.mk.injEq] at hy
      refine ⟨(n0, n1, n2), ⟨i64_of_wf w0, i64_of_wf w1, i64_of_wf w2⟩, ?_, z1, z2, _, hy.1⟩
      have e : (a.add (i * 3)).add 0 = a.add (i * 3) := by simp [Addr.add]
      rw [e] at z0
      exact z0
    have key2 : ∀ i, ∃ t : Int × Int × Int, i < m → I64S t ∧ W.cell? (a.add (i * 3)) = some (.int .i64 t.1) ∧ W.cell? ((a.add (i * 3)).add 1) = some (.int .i64 t.2.1) ∧ W.cell? ((a.add (i * 3)).add 2) = some (.int .i64 t.2.2) ∧ ∃ l, D i = .agg l := fun i => by
      by_cases him : i < m
      · obtain ⟨t, ht⟩ := key i him
        exact ⟨t, fun _ => ht⟩
      · exact ⟨(0, 0, 0), fun h => absurd h him⟩
    obtain ⟨f, hf2⟩ := Classical.axiomOfChoice key2
    have hlen : ((List.range len0).map f).length = len0 := by simp
    simp only [Prod.mk.injEq] at hx
    refine ⟨some a, (List.range len0).map f, cap0, by rw [hlen], ?_, ?_, ?_⟩
    · by_cases h0 : len0 = 0
      · subst h0
        exact .inl rfl
      · obtain ⟨b, o, sp⟩ := a
        have hsp : sp = none := by
          have := (hf2 0 (by omega)).2.1
          cases sp with
          | none => rfl
          | some q =>
            exfalso
            simp only [World.cell?, Addr.add] at this
            split at this <;> simp at this
        subst hsp
        have hadd : ∀ (o j : Nat), (⟨b, o, none⟩ : Addr).add j = ⟨b, o + j, none⟩ := fun o j => by unfold Addr.add; split <;> simp_all
        refine .inr ⟨b, o, rfl, ?_, ?_⟩
        · have := (hf2 0 (by omega)).2.1
          rw [hadd] at this
          exact World.block_lt_of_cell? W _ this
        · intro j hj
          rw [hlen] at hj
          obtain ⟨_, k0, k1, k2, _⟩ := hf2 j (by omega)
          simp only [hadd] at k0 k1 k2
          rw [List.getD, List.getElem?_map, List.getElem?_range hj]
          exact ⟨k0, k1, k2⟩
    · intro t ht
      obtain ⟨i, hi', rfl⟩ := List.mem_map.1 ht
      exact (hf2 i (by have := List.mem_range.1 hi'; omega)).1
    · rw [hx.1, hlen]
      simp only [Rows.uptoBulk]
      have := bulk_len ((List.range len0).map D) (fun d hd => by
        obtain ⟨i, hi', rfl⟩ := List.mem_map.1 hd
        obtain ⟨l, hl'⟩ := (hf2 i (by have := List.mem_range.1 hi'; omega)).2.2.2.2
        rw [hl']
        simp [Rows.uptoBulk])
      rw [List.length_map, List.length_range] at this
      omega
theorem own : ownKnob Tryd.prog.godebug = none := by kernel_rfl
theorem read34 : Tryd.prog.readableRec 34 = true := by kernel_rfl
theorem small34 : 34 < Tryd.prog.types.size := of_decide_eq_true (by kernel_rfl)
set_option maxRecDepth 100000 in
theorem contract (H : Type) (enc : TypeId × Value → H) (W : World) (base : Nat) (args : Array Value) (ds gs : List (DataW H)) (before : List MemPlace)
    (hval : ∀ (j : Nat) t v, Tryd.f9.params[j]? = some t → args[j]? = some v → Value.okWide Tryd.prog W .any base t v)
    (hW : DataW.Whole enc Tryd.prog Tryd.f9.params.toList Rows.taleTextsSpec.vars false W args.toList ds gs before) (hL : laidMetH Tryd.prog Rows.taleTextsUptoRow.laid W) (hsh : W.ShapedOpen Tryd.prog) (hk : Rows.uptoSmall H (ds ++ gs) = true) :
    Calls Tryd.prog 9 args W fun e W' => ∃ v, e = .returned v ∧ Rows.taleTextsSpec.post enc Tryd.prog Tryd.f9 false true false false W args v W' := by
  have hW' := hW
  obtain ⟨p, q, hA0, hV, rfl, _, _⟩ := hW
  have hA : DataW.TrodAll enc Tryd.prog W 0 (fun _ => true) true Tryd.f9.params.toList args.toList ds p := hA0
  rw [Tryd.params9] at hA hval
  obtain ⟨v0, d0, rfl, rfl, h0⟩ := trodAll_one hA
  obtain ⟨q, ts, c, rfl, hst, h64, hbulk⟩ := open_steps (hval 0 34 v0 rfl rfl) h0
  obtain ⟨rfl, _⟩ := trodVars_none hV
  have hs : ts.length ≤ 1048576 := by
    have h := of_decide_eq_true hk
    simp only [Rows.uptoBulkAll, List.append_nil] at h
    omega
  refine (texts_any q ts c W (env_of hL hsh) hst h64 hs).mono fun e W' ⟨he, hb⟩ => ?_
  exact ⟨_, he, post_true hW' rfl (fun _ => rfl) (by kernel_rfl) (fun t ht => by rw [Tryd.params9] at ht; obtain rfl : t = 34 := (by simpa using ht); exact ⟨read34, small34⟩) hb⟩

set_option maxRecDepth 100000 in
theorem reads (os : Os) {H : Type} (enc : TypeId × Value → H) : ∃ places, DataW.whole enc Tryd.prog ((startW os).forCall (fun _ _ => 0) ⟨#[], #[.slice none 0 0], []⟩).memory Tryd.f9.params.toList Rows.taleTextsSpec.vars false #[Value.slice none 0 0].toList 8 = some ([.nil], [], places) :=
  ⟨[], by kernel_rfl⟩

set_option maxRecDepth 100000 in
theorem lifted (os : Os) (started : os.Started) (H : Type) (enc : TypeId × Value → H) (F : Stop.Interp) :
    ReturnsInHanded {} Tryd.checked os 9 .any ((Rows.OpenSpec.upto Rows.taleTextsSpec).preRow enc Tryd.prog Tryd.f9 Rows.taleTextsUptoRow.domain false Rows.taleTextsUptoRow.laid) (((Rows.OpenSpec.upto Rows.taleTextsSpec).at F).post enc Tryd.prog Tryd.f9 false true false false) := by
  obtain ⟨places, hx⟩ := reads os enc
  refine returnsInHanded_of_row (C := Tryd.checked) (s := Rows.OpenSpec.upto Rows.taleTextsSpec) own started (by kernel_rfl) Tryd.func9
    (witness_row_atRef (enc := enc) (C := Tryd.checked) false (startW os) #[.slice none 0 0] rfl (start_vars os _) (start_rest os _) (by kernel_rfl)
      (OpenSpec.preRow_of_cond 8 hx (by kernel_rfl) (fun k hk => by cases hk; kernel_rfl) (by kernel_rfl) (start_metH os _))) ?_
  intro W base args ds gs before hval hW _ hcond _ hL hsh _
  exact contract H enc W base args ds gs before hval hW hL hsh (hcond _ rfl)

theorem said : Rows.TaleTextsUptoSaid :=
  OpenClaim.holds_of_cond 9 Tryd.f9 rfl rfl rfl rfl rfl rfl rfl ⟨rfl, rfl, rfl, rfl, rfl⟩ rfl rfl rfl rfl rfl (by kernel_rfl) Tryd.func9 (by kernel_rfl)
    (of_decide_eq_true (by kernel_rfl)) (by unfold Func.isWrapper; first | (rw [if_pos (by decide +kernel)]; kernel_rfl) | (rw [if_neg (by decide +kernel)]; exact ⟨rfl, rfl⟩))
    (fun os started H enc _ F => by rw [OpenClaim.pre_eq_preRow]; exact lifted os started H enc F)

theorem plain (f : FuncId) (fn : Func) (hf : Tryd.pinned.checked.prog.funcNamed "offertory/offertorylaw26.TaleTexts" = some f) (hfn : Tryd.pinned.checked.prog.funcs[f]? = some fn) :
    true = Tryd.pinned.checked.prog.looks [] ∧ ∀ (j : Nat) t, fn.params[j]? = some t → Tryd.pinned.checked.prog.wantsStandIn t = false := by
  obtain rfl : f = 9 := Option.some.inj ((show Tryd.prog.funcNamed "offertory/offertorylaw26.TaleTexts" = some 9 by kernel_rfl).symm.trans hf) |>.symm
  obtain rfl : fn = Tryd.f9 := (Option.some.inj (Tryd.func9.symm.trans hfn)).symm
  refine ⟨by kernel_rfl, fun j t ht => ?_⟩
  rw [Tryd.params9] at ht
  obtain rfl : t = 34 := by simpa using Array.mem_of_getElem? ht
  exact (show Tryd.prog.wantsStandIn 34 = false by kernel_rfl)

/-- THE CARD. -/
theorem card : Rows.TaleTextsUptoCardSaid :=
  Claim7.holds_tied_plain_at .later [] _ _ _ _ said (fun _ h => by cases h) (by kernel_rfl) (fun _ h => by cases h) taleTextsUpto_row_tie rfl ⟨rfl, rfl⟩ (by kernel_rfl) rfl plain (by kernel_rfl)
end Go.Proofs.YtmadabecpgjpjaaDoor.taleTexts
