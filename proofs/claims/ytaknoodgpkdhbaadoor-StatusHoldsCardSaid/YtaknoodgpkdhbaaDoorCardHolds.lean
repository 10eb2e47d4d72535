/- Proved here: for every input the law tailracelaw21.StatusHolds returns true, and each argument reads behind the call as it read before it. Conditions: the package variables that the row lists hold what their initialisers lay (the card ties this to the program's text). -/
import Derived.Test.YtaknoodgpkdhbaaDoorRowk

namespace Go.Proofs.YtaknoodgpkdhbaaDoor
open Go.ChangeShapes Go.WideShapes Go.ChangeAt Go.RowKit

def b32Tab : List Int := [0, 1, 28, 2, 29, 14, 24, 3, 30, 22, 20, 15, 25, 17, 4, 8, 31, 27, 13, 23, 21, 19, 16, 7, 26, 12, 18, 6, 11, 5, 10, 9]
def b64Tab : List Int := [0, 1, 56, 2, 57, 49, 28, 3, 61, 58, 42, 50, 38, 29, 17, 4, 62, 47, 59, 36, 45, 43, 51, 22, 53, 39, 33, 30, 24, 18, 12, 5, 63, 55, 48, 27, 60, 41, 37, 16, 46, 35, 44, 21, 52, 32, 23, 11, 54, 26, 40, 15, 34, 20, 31, 10, 25, 14, 19, 9, 13, 8, 7, 6]
theorem gB32 : Tryd.prog.globalNamed "math/bits.deBruijn32tab" = some 3 := by kernel_rfl
theorem gB64 : Tryd.prog.globalNamed "math/bits.deBruijn64tab" = some 4 := by kernel_rfl

def setTab (n : Nat) (k : IntKind) (zs : List Int) (h : Array Obj) : Array Obj := h.modify n fun
  | .cells _ t frozen => .cells (zs.map fun z => Value.int k z).toArray t frozen
  | o => o

/-- A world for the witnesses: the settled one, the tables holding what their initialisers lay. -/
noncomputable def laidWorld (os : Os) : World :=
  { World.holding Tryd.prog os ⟨#[], #[], []⟩ with heap := setTab 4 .u8 b64Tab (setTab 3 .u8 b32Tab (setTab 2 .u64 Lib.pow10Tab (setTab 1 .u32 addsTab (setTab 0 .u32 firstTab (World.holding Tryd.prog os ⟨#[], #[], []⟩).heap)))) }
end Go.Proofs.YtaknoodgpkdhbaaDoor

namespace Go.Proofs.YtaknoodgpkdhbaaDoor.statusHolds
open Go.ChangeShapes Go.WideShapes Go.ChangeAt Go.RowKit

noncomputable def start : Array Value := #[.agg #[.int .i64 0, .int .i64 0, .slice none 0 0], .agg (List.replicate 32 (Value.int .u8 0)).toArray, .agg (List.replicate 32 (Value.int .u8 0)).toArray, .bool false]
theorem laid_met (os : Os) : laidMet Tryd.prog Rows.statusHoldsRow.laid ((laidWorld os).forCall (fun _ _ => 0) ⟨#[], start, []⟩).memory :=
  laidMet_of_run' 8 (by kernel_rfl) (by kernel_rfl)
theorem reads (os : Os) {H : Type} (enc : TypeId × Value → H) : ∃ places, DataW.whole enc Tryd.prog ((laidWorld os).forCall (fun _ _ => 0) ⟨#[], start, []⟩).memory Tryd.f4.params.toList Rows.statusHoldsSpec.vars false start.toList 8 =
    some ([.agg [.lit (.int .i64 0), .lit (.int .i64 0), .nil], .agg (List.replicate 32 (.lit (.int .u8 0))), .agg (List.replicate 32 (.lit (.int .u8 0))), .lit (.bool false)], [], places) :=
  ⟨[], by kernel_rfl⟩

theorem contract (H : Type) (enc : TypeId × Value → H) (W : World) (base : Nat) (args : Array Value) (ds gs : List (DataW H)) (before : List MemPlace)
    (hval : ∀ (j : Nat) t v, Tryd.f4.params[j]? = some t → args[j]? = some v → Value.okWide Tryd.prog W .any base t v)
    (hW : DataW.Whole enc Tryd.prog Tryd.f4.params.toList Rows.statusHoldsSpec.vars false W args.toList ds gs before) (hL : laidMetH Tryd.prog Rows.statusHoldsRow.laid W) :
    Calls Tryd.prog 4 args W fun e W' => ∃ v, e = .returned v ∧ Rows.statusHoldsSpec.post enc Tryd.prog Tryd.f4 false true false false W args v W' := by
  have hW' := hW
  obtain ⟨p, q, hA0, hV, rfl, hfz, hnd⟩ := hW
  have hA : DataW.TrodAll enc Tryd.prog W 0 (fun _ => true) true Tryd.f4.params.toList args.toList ds p := hA0
  have hA1 := hA
  rw [Tryd.params4] at hA hval
  obtain ⟨v0, vs0, d0, ds0, p0, q0, hargs, rfl, rfl, h0, r0⟩ := trodAll_cons hA
  obtain ⟨v1, vs1, d1, ds1, p1, q1, rfl, rfl, rfl, h1, r1⟩ := trodAll_cons r0
  obtain ⟨v2, vs2, d2, ds2, p2, q2, rfl, rfl, rfl, h2, r2⟩ := trodAll_cons r1
  obtain ⟨v3, vs3, d3, ds3, p3, q3, rfl, rfl, rfl, h3, r3⟩ := trodAll_cons r2
  obtain ⟨rfl, rfl, rfl⟩ := trodAll_nil r3
  obtain rfl : args = #[v0, v1, v2, v3] := by cases args; simp_all
  obtain ⟨rfl, rfl⟩ := trodVars_none hV
  clear hA0
  simp only [List.append_nil] at hW'
  obtain ⟨own, rfl, rfl, rfl⟩ := open_bool Tryd.underlying4 (hval 3 4 v3 rfl rfl) h3
  have hlt : ∀ x ∈ p0 ++ (p1 ++ (p2 ++ ([] : List MemPlace))), x.block < W.heap.size := fun x hx => by simpa using hW'.lt x (by simpa using hx)
  have hlt0 : ∀ x ∈ p0, x.block < W.heap.size := fun x hx => hlt x (List.mem_append_left _ hx)
  -- the digests
  obtain ⟨f1, hf1⟩ := h1
  obtain ⟨f2, hf2⟩ := h2
  obtain ⟨cs1, rfl, _, _⟩ : ∃ cs, v1 = .agg cs ∧ _ ∧ _ := by have := hval 1 25 v1 rfl rfl; simp only [Value.okWide, Tryd.underlying25] at this; exact this
  obtain ⟨cs2, rfl, _, _⟩ : ∃ cs, v2 = .agg cs ∧ _ ∧ _ := by have := hval 2 25 v2 rfl rfl; simp only [Value.okWide, Tryd.underlying25] at this; exact this
  obtain ⟨cs0, rfl, _, _⟩ : ∃ cs, v0 = .agg cs ∧ _ ∧ _ := by have := hval 0 38 v0 rfl rfl; simp only [Value.okWide, Tryd.underlying38] at this; exact this
  obtain ⟨f, hf, hfb⟩ := open_hash hf1
  obtain ⟨g, hg, _⟩ := open_hash hf2
  obtain ⟨f0, hf0⟩ := h0
  obtain ⟨xs, m, _, hx, hl, hxl, hi⟩ := DataW.trod_struct Tryd.underlying38 hf0
  rw [show Tryd.prog.cellsOf 38 = 3 by kernel_rfl] at hl
  simp only [Value.cells] at hl hi hf hg
  obtain ⟨c0, c1, c2, hcs0⟩ : ∃ c0 c1 c2, cs0.toList = [c0, c1, c2] := by
    match h : cs0.toList, hl with
    | [c0, c1, c2], _ => exact ⟨c0, c1, c2, rfl⟩
  rw [hcs0] at hi
  obtain ⟨x0, x1, x2, rfl⟩ : ∃ x0 x1 x2, xs = [x0, x1, x2] := by
    match xs, hxl with
    | [x0, x1, x2], _ => exact ⟨x0, x1, x2, rfl⟩
  have k3 : Tryd.prog.cellsOf 3 = 1 := by kernel_rfl
  have k36 : Tryd.prog.cellsOf 36 = 1 := by kernel_rfl
  have i0 : DataW.trod enc Tryd.prog W 0 (fun _ => true) true m 3 [c0] = some x0 := by
    have := hi 0 _ rfl
    change DataW.trod enc Tryd.prog W 0 (fun _ => true) true m 3 (([c0, c1, c2].drop 0).take (Tryd.prog.cellsOf 3)) = some x0 at this
    rw [k3] at this
    exact this
  have i1 : DataW.trod enc Tryd.prog W 0 (fun _ => true) true m 3 [c1] = some x1 := by
    have := hi 1 _ rfl
    change DataW.trod enc Tryd.prog W 0 (fun _ => true) true m 3 (([c0, c1, c2].drop 1).take (Tryd.prog.cellsOf 3)) = some x1 at this
    rw [k3] at this
    exact this
  have i2 : DataW.trod enc Tryd.prog W 0 (fun _ => true) true m 36 [c2] = some x2 := by
    have := hi 2 _ rfl
    change DataW.trod enc Tryd.prog W 0 (fun _ => true) true m 36 (([c0, c1, c2].drop 2).take (Tryd.prog.cellsOf 36)) = some x2 at this
    rw [k36] at this
    exact this
  obtain ⟨ht, e0, _, _⟩ := DataW.trod_int Tryd.underlying3 i0
  obtain ⟨pz, e1, _, hpw⟩ := DataW.trod_int Tryd.underlying3 i1
  obtain ⟨ao, n, c, br, e2, hn, hbr, hsl⟩ := open_hashes i2 (fun y hy => hlt0 y (by
    simp only [Prod.mk.injEq] at hx
    rw [hx.2]; simp [hy]))
  simp only [List.cons.injEq, and_true] at e0 e1 e2
  subst e0 e1 e2
  obtain rfl : cs0 = #[.int .i64 ht, .int .i64 pz, .slice ao n c] := by rw [← Array.toArray_toList (xs := cs0), hcs0]
  obtain rfl : cs1 = (lst 32 (u8c f)).toArray := by rw [← hf]
  obtain rfl : cs2 = (lst 32 (u8c g)).toArray := by rw [← hg]
  have hp : pz ≤ 9223372036854775807 := by
    have a1 : IntKind.i64.min = -9223372036854775808 := rfl
    have a2 : IntKind.i64.max = 9223372036854775807 := rfl
    have : -9223372036854775808 ≤ pz ∧ pz ≤ 9223372036854775807 := by simpa [Lit.wf, a1, a2] using hpw
    exact this.2
  refine (law_holds ht pz f g _ _ br own ao n c W (laid_of hL) hp hfb hbr hn hsl).mono fun e W' ⟨he, hb⟩ => ?_
  refine ⟨_, he, _, _, _, [], _, [], hW', trodAll_mk1 (shut_bool Tryd.underlying4 true), below_trodAll hb _ _ _ _ ?_ ?_ hA1, rfl, hb.frame _, fun h => by cases h⟩
  · intro t ht'
    rw [Tryd.params4] at ht'
    simp only [List.mem_cons, List.not_mem_nil, or_false] at ht'
    rcases ht' with rfl | rfl | rfl | rfl
    · exact ⟨by kernel_rfl, of_decide_eq_true (by kernel_rfl)⟩
    · exact ⟨by kernel_rfl, of_decide_eq_true (by kernel_rfl)⟩
    · exact ⟨by kernel_rfl, of_decide_eq_true (by kernel_rfl)⟩
    · exact ⟨by kernel_rfl, of_decide_eq_true (by kernel_rfl)⟩
  · intro x hx'
    exact hlt x (by simpa using hx')

set_option maxRecDepth 100000 in
theorem lifted (os : Os) (started : os.Started) (H : Type) (enc : TypeId × Value → H) (F : Stop.Interp) :
    ReturnsInHanded {} Tryd.checked os 4 .any ((OpenSpec.ofChange Rows.statusHoldsSpec).preRow enc Tryd.prog Tryd.f4 Rows.statusHoldsRow.domain false Rows.statusHoldsRow.laid) (((OpenSpec.ofChange Rows.statusHoldsSpec).at F).post enc Tryd.prog Tryd.f4 false true false false) := by
  obtain ⟨places, hx⟩ := reads os enc
  refine returnsInHanded_of_row (C := Tryd.checked) (s := OpenSpec.ofChange Rows.statusHoldsSpec) own started (by kernel_rfl) Tryd.func4
    (witness_row_at (enc := enc) (C := Tryd.checked) false (laidWorld os) start rfl (by kernel_rfl) (by kernel_rfl) (by kernel_rfl)
      (OpenSpec.preRow_of_cond 8 hx (by kernel_rfl) (fun k hk => by cases hk) (by kernel_rfl) (laid_met os))) ?_
  intro W base args ds gs before hval hW _ _ _ hL _ _
  exact contract H enc W base args ds gs before hval hW hL

theorem said : Rows.StatusHoldsSaid :=
  OpenClaim.holds_of_cond 4 Tryd.f4 rfl rfl rfl rfl rfl rfl rfl ⟨rfl, rfl, rfl, rfl, rfl⟩ rfl rfl rfl rfl rfl (by kernel_rfl) Tryd.func4 (by kernel_rfl)
    (of_decide_eq_true (by kernel_rfl)) (by unfold Func.isWrapper; first | (rw [if_pos (by decide +kernel)]; kernel_rfl) | (rw [if_neg (by decide +kernel)]; exact ⟨rfl, rfl⟩))
    (fun os started H enc _ F => by rw [OpenClaim.pre_eq_preRow]; exact lifted os started H enc F)

/-- No parameter wants a stand-in; the program's own looks are off. -/
theorem plain (f : FuncId) (fn : Func) (hf : Tryd.pinned.checked.prog.funcNamed "tailrace/tailracelaw21.StatusHolds" = some f) (hfn : Tryd.pinned.checked.prog.funcs[f]? = some fn) :
    false = Tryd.pinned.checked.prog.looks [] ∧ ∀ (j : Nat) t, fn.params[j]? = some t → Tryd.pinned.checked.prog.wantsStandIn t = false := by
  obtain rfl : f = 4 := Option.some.inj ((show Tryd.prog.funcNamed "tailrace/tailracelaw21.StatusHolds" = some 4 by kernel_rfl).symm.trans hf) |>.symm
  obtain rfl : fn = Tryd.f4 := (Option.some.inj (Tryd.func4.symm.trans hfn)).symm
  refine ⟨by kernel_rfl, fun j t ht => ?_⟩
  rw [Tryd.params4] at ht
  have hm : t = 38 ∨ t = 25 ∨ t = 25 ∨ t = 4 := by simpa using Array.mem_of_getElem? ht
  rcases hm with rfl | rfl | rfl | rfl
  · exact (show Tryd.prog.wantsStandIn 38 = false by kernel_rfl)
  · exact (show Tryd.prog.wantsStandIn 25 = false by kernel_rfl)
  · exact (show Tryd.prog.wantsStandIn 25 = false by kernel_rfl)
  · exact (show Tryd.prog.wantsStandIn 4 = false by kernel_rfl)

/-- The card. -/
theorem card : Rows.StatusHoldsCardSaid :=
  Claim7.holds_tied_plain_at .later [] _ _ _ _ said (fun _ h => by cases h) (by kernel_rfl) (fun _ h => by cases h) statusHolds_row_tie rfl ⟨rfl, rfl⟩ (by kernel_rfl) rfl plain (by kernel_rfl)
#print axioms card
end Go.Proofs.YtaknoodgpkdhbaaDoor.statusHolds
