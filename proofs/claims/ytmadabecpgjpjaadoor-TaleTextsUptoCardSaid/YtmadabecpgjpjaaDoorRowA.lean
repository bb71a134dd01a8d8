/- What a row's conditions give: the facts on the package's variables, the setups opened; what a law's row says of the end. -/
import Derived.Test.YtmadabecpgjpjaaDoorRows
import Derived.Test.YtmadabecpgjpjaaDoorDeedA
import Derived.ProofKit
import Derived.LaidMore
import Derived.OpenShut
import Derived.Lib.LaidTab
import Derived.Lib.SmallJoins
import Derived.Stop.LaidErr
import Derived.MakeChecks
namespace Go.Proofs.YtmadabecpgjpjaaDoor
open Go.ChangeShapes Go.WideShapes Go.ChangeAt Go.RowKit

/-- The laid list of every row. -/
def laidAll : List (String × DataW Unit) := Rows.deedReadsUptoRow.laid
theorem laid_plain (W : World) : laidMetH Tryd.prog laidAll W = laidMet Tryd.prog laidAll W := MakeChecks.laidMetH_plain _ _ _ (by kernel_rfl)
theorem laidOutT : laidOutB Tryd.prog = true := by kernel_rfl
theorem cells1_3 : Tryd.prog.cellsOf 3 = 1 := by kernel_rfl
theorem cells1_37 : Tryd.prog.cellsOf 37 = 1 := by kernel_rfl
theorem cells4_39 : Tryd.prog.cellsOf 39 = 4 := by kernel_rfl
theorem cells7_41 : Tryd.prog.cellsOf 41 = 7 := by kernel_rfl

theorem cells1_9 : Tryd.prog.cellsOf 9 = 1 := by kernel_rfl
theorem cells1_125 : Tryd.prog.cellsOf 125 = 1 := by kernel_rfl
theorem cells_127 : Tryd.prog.cellsOf 127 = 20 := by kernel_rfl
theorem tSyn : (Tryd.prog.globals[0]?).map (·.type) = some 60 := by kernel_rfl
theorem tRng : (Tryd.prog.globals[1]?).map (·.type) = some 60 := by kernel_rfl
theorem tTab : (Tryd.prog.globals[3]?).map (·.type) = some 127 := by kernel_rfl
theorem starE : "*" ++ "errors.errorString" = "*errors.errorString" := by decide
theorem row123 (u : TypeId) (h : Tryd.prog.typeName? 3 u = some "*errors.errorString") : u = 123 :=
  typeName_ptr_named (nm := "errors.errorString") (by rw [starE]; kernel_rfl) (by kernel_rfl) (by decide) u (by rw [starE]; exact h)

set_option maxRecDepth 100000 in
/-- THE VARIABLES: what the rows' lists and the world's shape give. -/
theorem env_of {W : World} (hL : laidMetH Tryd.prog laidAll W) (hsh : W.ShapedOpen Tryd.prog) : Env W := by
  rw [laid_plain] at hL
  have t3 := hL.tail.tail
  have t5 := hL.tail.tail.tail.tail
  have t6 := hL.tail.tail.tail.tail.tail
  obtain ⟨a1, s1, hv1, -, -, -⟩ := laid_sentinel t5 gRng tRng Tryd.underlying60 row123 Tryd.underlying123 Tryd.underlying125 rfl rfl Tryd.underlying9 cells1_125 cells1_9
  obtain ⟨a0, s0, hv0, -, -, -⟩ := laid_sentinel t6 gSyn tSyn Tryd.underlying60 row123 Tryd.underlying123 Tryd.underlying125 rfl rfl Tryd.underlying9 cells1_125 cells1_9
  refine ⟨?_, Lib.tabIs_of_head gTab tTab Tryd.underlying127 Tryd.underlying87 (by kernel_rfl) cells_127 t3, ⟨_, _, hv0⟩, ⟨_, _, hv1⟩, ?_⟩
  · obtain ⟨cs, hh, hs, hr⟩ := hsh.1 2 #[.int .i64 0] 3 (of_decide_eq_true (by kernel_rfl)) (by kernel_rfl)
    obtain ⟨ts, hts, _, hall⟩ := hr (by kernel_rfl)
    have hts2 : ts = [3] := by
      have e : Tryd.prog.cellTypes Tryd.prog.depth 3 = some [3] := by kernel_rfl
      rw [e] at hts
      exact (Option.some.inj hts).symm
    subst hts2
    have h1 : 0 < cs.size := by rw [hs]; decide
    obtain ⟨u, hu, hok⟩ := hall 0 cs[0] (by simp [h1])
    have hu2 : u = 3 := by simpa using hu.symm
    subst hu2
    have hc : W.cell? ⟨2, 0, none⟩ = some cs[0] := by simp [World.cell?, hh, h1]
    rw [hc]
    unfold Cell.ok at hok
    rw [Tryd.underlying3] at hok
    cases hv : cs[0] <;> rw [hv] at hok <;> first | (rename_i kk nn; cases kk <;> first | exact ⟨_, rfl⟩ | simp at hok) | simp at hok
  · have hs7 : (((begin Tryd.prog (fun _ _ => 0) default).world.heap[7]?).bind Obj.row?).isSome = true := by kernel_rfl
    obtain ⟨⟨zero, t⟩, hz⟩ := Option.isSome_iff_exists.1 hs7
    obtain ⟨cs, hh, _⟩ := hsh.1 7 zero t (of_decide_eq_true (by kernel_rfl)) hz
    exact (Array.getElem?_eq_some_iff.1 hh).1

theorem i64_of_wf {n : Int} (h : (Lit.int .i64 n).wf = true) : I64 n := by
  simp [Lit.wf, IntKind.min, IntKind.max, IntKind.signed, IntKind.bits] at h
  exact ⟨h.1, h.2⟩
theorem wf_of_i64 {n : Int} (h : I64 n) : (Lit.int .i64 n).wf = true := by
  simp [Lit.wf, IntKind.min, IntKind.max, IntKind.signed, IntKind.bits]
  exact ⟨h.lo, h.hi⟩

set_option maxRecDepth 100000 in
/-- A SETUP, OPENED. -/
theorem open_setup {H : Type} {enc : TypeId × Value → H} {W : World} {r : Reach} {b0 : Nat} {v : Value} {d : DataW H} {ps : List MemPlace}
    (hval : Value.okWide Tryd.prog W r b0 41 v) (h : DataW.Trod enc Tryd.prog W 0 (fun _ => true) true 41 v d ps) :
    ∃ (f : Nat → Int) (p : Option Addr) (es : List Int) (c : Nat), v = .agg (scells f (.slice p es.length c)) ∧ (∀ k, k < 6 → I64 (f k)) ∧ IntsAt W p es ∧ (∀ x ∈ es, I64 x) ∧ es.length ≤ maxLen := by
  obtain ⟨cs, rfl, hsz⟩ := okWide_struct Tryd.underlying41 hval
  obtain ⟨fuel, hf⟩ := h
  obtain ⟨y0, y1, y2, y3, n, _, hl, h0, h1, h2, h3⟩ := Joins.trod_struct4 Tryd.underlying41 hf
  rw [cells7_41] at hl
  simp only [cells1_3, cells4_39] at h0 h1 h2 h3
  obtain ⟨z0, z1, z2, z3, m, _, hl2, g0, g1, g2, g3⟩ := Joins.trod_struct4 Tryd.underlying39 h3
  simp only [cells1_3, cells1_37] at g0 g1 g2 g3
  obtain ⟨n0, e0, _, w0⟩ := DataW.trod_int Tryd.underlying3 h0
  obtain ⟨n1, e1, _, w1⟩ := DataW.trod_int Tryd.underlying3 h1
  obtain ⟨n2, e2, _, w2⟩ := DataW.trod_int Tryd.underlying3 h2
  obtain ⟨n3, e3, _, w3⟩ := DataW.trod_int Tryd.underlying3 g0
  obtain ⟨n4, e4, _, w4⟩ := DataW.trod_int Tryd.underlying3 g1
  obtain ⟨n5, e5, _, w5⟩ := DataW.trod_int Tryd.underlying3 g2
  have hcs : ∃ a b c d e f g, cs = #[a, b, c, d, e, f, g] := by
    have hl' : cs.toList.length = 7 := hl
    obtain ⟨l⟩ := cs
    match l, hl' with
    | [a, b, c, d, e, f, g], _ => exact ⟨a, b, c, d, e, f, g, rfl⟩
  obtain ⟨a, b, c, d, e, f, g, rfl⟩ := hcs
  simp [Value.cells] at e0 e1 e2 e3 e4 e5 g3
  subst e0 e1 e2 e3 e4 e5
  have hi : ∀ k, k < 6 → I64 (nums n0 n1 n2 n3 n4 n5 k) := by
    intro k hk
    match k, hk with
    | 0, _ => exact i64_of_wf w0
    | 1, _ => exact i64_of_wf w1
    | 2, _ => exact i64_of_wf w2
    | 3, _ => exact i64_of_wf w3
    | 4, _ => exact i64_of_wf w4
    | 5, _ => exact i64_of_wf w5
  rcases open_ints Tryd.underlying37 Tryd.underlying3 cells1_3 g3 with ⟨hc, _⟩ | ⟨ad, len, cap, zs, hc, _, hlc, hcm, hzl, _, hcell, hwf⟩
  · simp at hc
    subst hc
    exact ⟨nums n0 n1 n2 n3 n4 n5, none, [], 0, rfl, hi, .inl rfl, by simp, by simp⟩
  · simp at hc hzl
    subst hc
    have hlen : (zs.take len).length = len := by rw [List.length_take]; omega
    refine ⟨nums n0 n1 n2 n3 n4 n5, some ad, zs.take len, cap, by rw [hlen]; rfl, hi, ?_, ?_, by rw [hlen]; omega⟩
    · by_cases h0 : len = 0
      · subst h0; exact .inl (by simp)
      · obtain ⟨b, o, sp⟩ := ad
        have hsp : sp = none := by
          have := hcell 0 (by omega)
          cases sp with
          | none => rfl
          | some q =>
            exfalso
            simp only [World.cell?, Addr.add] at this
            split at this <;> simp at this
        subst hsp
        refine .inr ⟨b, o, rfl, World.block_lt_of_cell? W _ (hcell 0 (by omega)), ?_⟩
        intro j hj
        rw [hlen] at hj
        have := hcell j (by omega)
        rw [show (zs.take len).getD j 0 = zs.getD j 0 by simp [List.getD, hj]]
        have e : (⟨b, o, none⟩ : Addr).add j = ⟨b, o + j, none⟩ := by unfold Addr.add; split <;> simp_all
        rw [e] at this
        exact this
    · intro x hx
      exact i64_of_wf (hwf x (List.mem_of_mem_take hx))

theorem trodAll_later {H : Type} {enc : TypeId × Value → H} {W W' : World} (hb : Below W.heap.size W W') : ∀ (ts : List TypeId) (vs : List Value) (ds : List (DataW H)) (ps : List MemPlace),
    (∀ t ∈ ts, Tryd.prog.readableRec t = true ∧ t < Tryd.prog.types.size) → (∀ x ∈ ps, x.block < W.heap.size) → DataW.TrodAll enc Tryd.prog W 0 (fun _ => true) true ts vs ds ps → DataW.TrodAll enc Tryd.prog W' 0 (fun b => decide (b < W.heap.size)) true ts vs ds ps
  | [], [], [], _, _, _, h => h
  | t :: ts, v :: vs, d :: ds, ps, hr, hl, h => by
    obtain ⟨p, q, h1, h2, rfl⟩ := h
    exact ⟨p, q, Below.trod laidOutT (hr t (by simp)).1 (hr t (by simp)).2 h1 hb (fun x hx => hl x (List.mem_append_left _ hx)), trodAll_later hb ts vs ds q (fun u hu => hr u (by simp [hu])) (fun x hx => hl x (List.mem_append_right _ hx)) h2, rfl⟩
  | [], [], _ :: _, _, _, _, h => h.elim
  | [], _ :: _, _, _, _, _, h => h.elim
  | _ :: _, [], _, _, _, _, h => h.elim
  | _ :: _, _ :: _, [], _, _, _, h => h.elim

/-- THE END OF A LAW: it returned true, and nothing that was there is changed. -/
theorem post_true {H : Type} {enc : TypeId × Value → H} {f : Func} {s : ChangeSpec} {W W' : World} {args : Array Value} {ds gs : List (DataW H)} {before : List MemPlace}
    (hW : DataW.Whole enc Tryd.prog f.params.toList s.vars false W args.toList ds gs before) (hv : s.vars = []) (hs : gs = [] → s.fn H (ds ++ gs) = { results := [.lit (.bool true)], args := ds, vars := [] }) (hr : f.resultTypes = #[4])
    (hrd : ∀ t ∈ f.params.toList, Tryd.prog.readableRec t = true ∧ t < Tryd.prog.types.size) (hb : Below W.heap.size W W') :
    s.post enc Tryd.prog f false true false false W args (.bool true) W' := by
  have hW' := hW
  have hlt := hW.lt
  obtain ⟨p, q, hA, hV, rfl, _, _⟩ := hW
  rw [hv] at hV
  obtain ⟨rfl, rfl⟩ := trodVars_none hV
  have hs := hs rfl
  refine ⟨ds, [], p ++ [], [], p, [], hW', ?_, ?_, ?_, hb.frame _, fun h => by cases h⟩
  · rw [hs, hr]
    exact trodAll_mk1 (shut_bool Tryd.underlying4 _)
  · rw [hs]
    exact trodAll_later hb _ _ _ _ hrd (fun x hx => hlt x (List.mem_append_left _ hx)) hA
  · rw [hs, hv]
    exact rfl
end Go.Proofs.YtmadabecpgjpjaaDoor
