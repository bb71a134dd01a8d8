/- PROVED: the law TaleLines answers true for every step, and the step reads afterwards as it did. CONDITIONS: none beyond the row's own (the listed package variables read as listed). -/
import Derived.Test.YtmadabecpgjpjaaDoorStart
import Derived.Test.YtmadabecpgjpjaaDoorLawT
import Derived.Test.YtmadabecpgjpjaaDoorCards
import Derived.Test.YtmadabecpgjpjaaDoorTie
import Derived.Deep.DeepHandedRow
namespace Go.Proofs.YtmadabecpgjpjaaDoor.taleLines
open Go.ChangeShapes Go.WideShapes Go.ChangeAt Go.RowKit

theorem cells3_23 : Tryd.prog.cellsOf 23 = 3 := by kernel_rfl
set_option maxRecDepth 100000 in
/-- A STEP OPENED. -/
theorem open_step {H : Type} {enc : TypeId × Value → H} {W : World} {base : Nat} {v : Value} {d : DataW H} {p : List MemPlace} (hv : Value.okWide Tryd.prog W .any base 23 v)
    (h : DataW.Trod enc Tryd.prog W 0 (fun _ => true) true 23 v d p) : ∃ k a b : Int, v = .agg #[.int .i64 k, .int .i64 a, .int .i64 b] ∧ I64 a ∧ I64 b := by
  obtain ⟨c0, c1, c2, y0, y1, y2, m, rfl, rfl, rfl, g0, g1, g2⟩ := Joins.open_agg3 Tryd.underlying23 (by kernel_rfl) cells3_23 hv h
  obtain ⟨n0, e0, _, w0⟩ := DataW.trod_int Tryd.underlying3 g0
  obtain ⟨n1, e1, _, w1⟩ := DataW.trod_int Tryd.underlying3 g1
  obtain ⟨n2, e2, _, w2⟩ := DataW.trod_int Tryd.underlying3 g2
  simp at e0 e1 e2
  subst e0 e1 e2
  exact ⟨n0, n1, n2, rfl, i64_of_wf w1, i64_of_wf w2⟩
theorem own : ownKnob Tryd.prog.godebug = none := by kernel_rfl
theorem read23 : Tryd.prog.readableRec 23 = true := by kernel_rfl
theorem small23 : 23 < Tryd.prog.types.size := of_decide_eq_true (by kernel_rfl)
/-- The empty step. -/
def zero3 : Value := .agg #[.int .i64 0, .int .i64 0, .int .i64 0]
def zeroD {H : Type} : DataW H := .agg [.lit (.int .i64 0), .lit (.int .i64 0), .lit (.int .i64 0)]

set_option maxRecDepth 100000 in
theorem contract (H : Type) (enc : TypeId × Value → H) (W : World) (base : Nat) (args : Array Value) (ds gs : List (DataW H)) (before : List MemPlace)
    (hval : ∀ (j : Nat) t v, Tryd.f3.params[j]? = some t → args[j]? = some v → Value.okWide Tryd.prog W .any base t v)
    (hW : DataW.Whole enc Tryd.prog Tryd.f3.params.toList Rows.taleLinesSpec.vars false W args.toList ds gs before) (hL : laidMetH Tryd.prog Rows.taleLinesRow.laid W) (hsh : W.ShapedOpen Tryd.prog) :
    Calls Tryd.prog 3 args W fun e W' => ∃ v, e = .returned v ∧ Rows.taleLinesSpec.post enc Tryd.prog Tryd.f3 false true false false W args v W' := by
  have hW' := hW
  obtain ⟨p, q, hA0, hV, rfl, _, _⟩ := hW
  have hA : DataW.TrodAll enc Tryd.prog W 0 (fun _ => true) true Tryd.f3.params.toList args.toList ds p := hA0
  rw [Tryd.params3] at hA hval
  obtain ⟨v0, d0, rfl, rfl, h0⟩ := trodAll_one hA
  obtain ⟨k, a, b, rfl, ha, hb⟩ := open_step (hval 0 23 v0 rfl rfl) h0
  refine (lines_any k a b ha hb W (env_of hL hsh)).mono fun e W' ⟨he, hb⟩ => ?_
  exact ⟨_, he, post_true hW' rfl (fun h => by subst h; rfl) (by kernel_rfl) (fun t ht => by rw [Tryd.params3] at ht; obtain rfl : t = 23 := (by simpa using ht); exact ⟨read23, small23⟩) hb⟩

set_option maxRecDepth 100000 in
theorem reads (os : Os) {H : Type} (enc : TypeId × Value → H) : ∃ places, DataW.whole enc Tryd.prog ((startW os).forCall (fun _ _ => 0) ⟨#[], #[zero3], []⟩).memory Tryd.f3.params.toList Rows.taleLinesSpec.vars false #[zero3].toList 8 = some ([zeroD], [], places) :=
  ⟨[], by kernel_rfl⟩

set_option maxRecDepth 100000 in
theorem lifted (os : Os) (started : os.Started) (H : Type) (enc : TypeId × Value → H) (F : Stop.Interp) :
    ReturnsInHanded {} Tryd.checked os 3 .any ((OpenSpec.ofChange Rows.taleLinesSpec).preRow enc Tryd.prog Tryd.f3 Rows.taleLinesRow.domain false Rows.taleLinesRow.laid) (((OpenSpec.ofChange Rows.taleLinesSpec).at F).post enc Tryd.prog Tryd.f3 false true false false) := by
  obtain ⟨places, hx⟩ := reads os enc
  refine returnsInHanded_of_row (C := Tryd.checked) (s := OpenSpec.ofChange Rows.taleLinesSpec) own started (by kernel_rfl) Tryd.func3
    (witness_row_atRef (enc := enc) (C := Tryd.checked) false (startW os) #[zero3] rfl (start_vars os _) (start_rest os _) (by kernel_rfl)
      (OpenSpec.preRow_of_cond 8 hx (by kernel_rfl) (fun k hk => by cases hk) (by kernel_rfl) (start_metH os _))) ?_
  intro W base args ds gs before hval hW _ _ _ hL hsh _
  exact contract H enc W base args ds gs before hval hW hL hsh

theorem said : Rows.TaleLinesSaid :=
  OpenClaim.holds_of_cond 3 Tryd.f3 rfl rfl rfl rfl rfl rfl rfl ⟨rfl, rfl, rfl, rfl, rfl⟩ rfl rfl rfl rfl rfl (by kernel_rfl) Tryd.func3 (by kernel_rfl)
    (of_decide_eq_true (by kernel_rfl)) (by unfold Func.isWrapper; first | (rw [if_pos (by decide +kernel)]; kernel_rfl) | (rw [if_neg (by decide +kernel)]; exact ⟨rfl, rfl⟩))
    (fun os started H enc _ F => by rw [OpenClaim.pre_eq_preRow]; exact lifted os started H enc F)

theorem plain (f : FuncId) (fn : Func) (hf : Tryd.pinned.checked.prog.funcNamed "offertory/offertorylaw26.TaleLines" = some f) (hfn : Tryd.pinned.checked.prog.funcs[f]? = some fn) :
    true = Tryd.pinned.checked.prog.looks [] ∧ ∀ (j : Nat) t, fn.params[j]? = some t → Tryd.pinned.checked.prog.wantsStandIn t = false := by
  obtain rfl : f = 3 := Option.some.inj ((show Tryd.prog.funcNamed "offertory/offertorylaw26.TaleLines" = some 3 by kernel_rfl).symm.trans hf) |>.symm
  obtain rfl : fn = Tryd.f3 := (Option.some.inj (Tryd.func3.symm.trans hfn)).symm
  refine ⟨by kernel_rfl, fun j t ht => ?_⟩
  rw [Tryd.params3] at ht
  obtain rfl : t = 23 := by simpa using Array.mem_of_getElem? ht
  exact (show Tryd.prog.wantsStandIn 23 = false by kernel_rfl)

/-- THE CARD. -/
theorem card : Rows.TaleLinesCardSaid :=
  Claim7.holds_tied_plain_at .later [] _ _ _ _ said (fun _ h => by cases h) (by kernel_rfl) (fun _ h => by cases h) taleLines_row_tie rfl ⟨rfl, rfl⟩ (by kernel_rfl) rfl plain (by kernel_rfl)
end Go.Proofs.YtmadabecpgjpjaaDoor.taleLines
