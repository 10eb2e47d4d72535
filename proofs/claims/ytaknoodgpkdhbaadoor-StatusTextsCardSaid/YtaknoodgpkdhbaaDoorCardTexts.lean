/- Proved here: for every input the law tailracelaw21.StatusTexts returns true, and its argument reads behind the call as it read before. Conditions: the package variables that the row lists hold what their initialisers lay (the card ties this to the program's text). -/
import Derived.Test.YtaknoodgpkdhbaaDoorRowk
import Derived.Test.YtaknoodgpkdhbaaDoorLawTexts

namespace Go.Proofs.YtaknoodgpkdhbaaDoor
open Go.ChangeShapes Go.WideShapes Go.ChangeAt Go.RowKit

section
variable {H : Type} {enc : TypeId × Value → H} {w : World} {base : Nat} {sp : Nat → Bool} {held : Bool}

theorem trod_i64_bd {fuel : Nat} {cs : List Value} {x : DataW H × List MemPlace} (h : DataW.trod enc Tryd.prog w base sp held fuel 3 cs = some x) :
    ∃ z : Int, cs = [.int .i64 z] ∧ -9223372036854775808 ≤ z ∧ z ≤ 9223372036854775807 := by
  obtain ⟨z, e, _, wf⟩ := DataW.trod_int Tryd.underlying3 h
  have a1 : IntKind.i64.min = -9223372036854775808 := rfl
  have a2 : IntKind.i64.max = 9223372036854775807 := rfl
  exact ⟨z, e, by simpa [Lit.wf, a1, a2] using wf⟩

/-- An item of a history. -/
theorem open_item {fuel : Nat} {cs : List Value} {x : DataW H × List MemPlace} (h : DataW.trod enc Tryd.prog w base sp held fuel 27 cs = some x) :
    ∃ (ht ps : Int) (f : Nat → Int), cs = .int .i64 ht :: .int .i64 ps :: lst 32 (u8c f) ∧ (-9223372036854775808 ≤ ht ∧ ht ≤ 9223372036854775807) ∧ ∀ j, 0 ≤ f j ∧ f j ≤ 255 := by
  obtain ⟨xs, m, _, _, hl, hxl, hi⟩ := DataW.trod_struct Tryd.underlying27 h
  rw [show Tryd.prog.cellsOf 27 = 34 by kernel_rfl] at hl
  obtain ⟨x0, x1, x2, rfl⟩ : ∃ x0 x1 x2, xs = [x0, x1, x2] := by
    match xs, hxl with
    | [x0, x1, x2], _ => exact ⟨x0, x1, x2, rfl⟩
  have k3 : Tryd.prog.cellsOf 3 = 1 := by kernel_rfl
  have k25 : Tryd.prog.cellsOf 25 = 32 := by kernel_rfl
  have i0 := hi 0 _ rfl
  change DataW.trod enc Tryd.prog w base sp held m 3 ((cs.drop 0).take (Tryd.prog.cellsOf 3)) = some x0 at i0
  have i1 := hi 1 _ rfl
  change DataW.trod enc Tryd.prog w base sp held m 3 ((cs.drop 1).take (Tryd.prog.cellsOf 3)) = some x1 at i1
  have i2 := hi 2 _ rfl
  change DataW.trod enc Tryd.prog w base sp held m 25 ((cs.drop 2).take (Tryd.prog.cellsOf 25)) = some x2 at i2
  rw [k3] at i0 i1
  rw [k25] at i2
  obtain ⟨ht, e0, hb⟩ := trod_i64_bd i0
  obtain ⟨ps, e1, _⟩ := trod_i64_bd i1
  obtain ⟨f, e2, hf⟩ := open_hash i2
  refine ⟨ht, ps, f, ?_, hb, hf⟩
  rw [List.drop_zero] at e0
  rw [List.take_of_length_le (by simp; omega)] at e2
  have a0 : cs = cs.take 1 ++ (cs.drop 1).take 1 ++ cs.drop 2 := by
    have h1 : cs.drop 1 = (cs.drop 1).take 1 ++ cs.drop 2 := by
      have := (List.take_append_drop 1 (cs.drop 1)).symm
      rw [List.drop_drop] at this
      exact this
    rw [List.append_assoc, ← h1, List.take_append_drop]
  rw [a0, e0, e1, e2]
  rfl

/-- A history that came in. -/
theorem open_items {fuel : Nat} {cs : List Value} {x : DataW H × List MemPlace} (h : DataW.trod enc Tryd.prog w base sp held fuel 22 cs = some x) :
    ∃ (ao : Option Addr) (n c : Nat) (hts : Nat → Int) (txs : Nat → Nat → Int), cs = [.slice ao n c] ∧ n ≤ 9223372036854775807 ∧ Hist w ao n hts txs := by
  have hm : maxLen = 9223372036854775807 := by decide
  rcases DataW.trod_slice Tryd.underlying22 h with ⟨rfl, _⟩ | ⟨a, len, cap, elems, rest, m, _, rfl, rfl, hb, hlc, hcm, hel, hi, _, _⟩
  · exact ⟨none, 0, 0, fun _ => 0, fun _ _ => 0, rfl, by omega, ⟨fun i hi => by omega, fun _ => ⟨by omega, by omega⟩, fun _ _ => ⟨by omega, by omega⟩⟩⟩
  · rw [show Tryd.prog.cellsOf 27 = 34 by kernel_rfl] at hi
    have hz : ∀ i, i < len → ∃ (ht ps : Int) (f : Nat → Int), (-9223372036854775808 ≤ ht ∧ ht ≤ 9223372036854775807) ∧ (∀ j, 0 ≤ f j ∧ f j ≤ 255) ∧
        ∀ j, j < 34 → w.cell? ((a.add (i * 34)).add j) = (Value.int .i64 ht :: .int .i64 ps :: lst 32 (u8c f))[j]? := by
      intro i hi'
      have := hi i hi'
      rw [List.getElem?_eq_getElem (by omega), Option.bind_eq_some_iff] at this
      obtain ⟨cs', hc, hit⟩ := this
      obtain ⟨_, hcl, hcc⟩ := World.cells?_some hc
      obtain ⟨ht, ps, f, rfl, hh, hf⟩ := open_item hit
      exact ⟨ht, ps, f, hh, hf, fun j hj => hcc j hj⟩
    by_cases hl0 : len = 0
    · exact ⟨some a, len, cap, fun _ => 0, fun _ _ => 0, rfl, by omega, ⟨fun i hi => by omega, fun _ => ⟨by omega, by omega⟩, fun _ _ => ⟨by omega, by omega⟩⟩⟩
    obtain ⟨b, o, spot⟩ := a
    have hspot : spot = none := by
      obtain ⟨ht, ps, f, _, _, h0⟩ := hz 0 (by omega)
      have := h0 0 (by omega)
      simpa [Addr.add] using World.cell?_spot this
    subst hspot
    have hz' : ∀ i, ∃ q : Int × Int × (Nat → Int), (-9223372036854775808 ≤ q.1 ∧ q.1 ≤ 9223372036854775807) ∧ (∀ j, 0 ≤ q.2.2 j ∧ q.2.2 j ≤ 255) ∧
        (i < len → ∀ j, j < 34 → w.cell? ⟨b, o + i * 34 + j, none⟩ = (Value.int .i64 q.1 :: .int .i64 q.2.1 :: lst 32 (u8c q.2.2))[j]?) := by
      intro i
      by_cases hi : i < len
      · obtain ⟨ht, ps, f, hh, hf, hc⟩ := hz i hi
        refine ⟨⟨ht, ps, f⟩, hh, hf, fun _ j hj => ?_⟩
        have := hc j hj
        rw [add_plain, add_plain] at this
        exact this
      · exact ⟨⟨0, 0, fun _ => 0⟩, ⟨by decide, by decide⟩, fun _ => ⟨Int.le_refl 0, show (0 : Int) ≤ 255 by decide⟩, fun h => absurd h hi⟩
    refine ⟨some ⟨b, o, none⟩, len, cap, fun i => (Classical.choose (hz' i)).1, fun i => (Classical.choose (hz' i)).2.2, rfl, by omega, ⟨fun i hi => ?_, fun i => (Classical.choose_spec (hz' i)).1, fun i => (Classical.choose_spec (hz' i)).2.1⟩⟩
    have hs := (Classical.choose_spec (hz' i)).2.2 hi
    refine ⟨b, o, (Classical.choose (hz' i)).2.1, rfl, World.block_lt_of_cell? w _ (hs 0 (by omega)), fun j v hv => ?_⟩
    have hj : j < 34 := by
      have := (List.getElem?_eq_some_iff.1 hv).1
      simpa [lst_length] using this
    rw [hs j hj]
    exact hv
end
end Go.Proofs.YtaknoodgpkdhbaaDoor

namespace Go.Proofs.YtaknoodgpkdhbaaDoor.statusTexts
open Go.ChangeShapes Go.WideShapes Go.ChangeAt Go.RowKit

def b32Tab : List Int := [0, 1, 28, 2, 29, 14, 24, 3, 30, 22, 20, 15, 25, 17, 4, 8, 31, 27, 13, 23, 21, 19, 16, 7, 26, 12, 18, 6, 11, 5, 10, 9]
def b64Tab : List Int := [0, 1, 56, 2, 57, 49, 28, 3, 61, 58, 42, 50, 38, 29, 17, 4, 62, 47, 59, 36, 45, 43, 51, 22, 53, 39, 33, 30, 24, 18, 12, 5, 63, 55, 48, 27, 60, 41, 37, 16, 46, 35, 44, 21, 52, 32, 23, 11, 54, 26, 40, 15, 34, 20, 31, 10, 25, 14, 19, 9, 13, 8, 7, 6]

def setTab (n : Nat) (k : IntKind) (zs : List Int) (h : Array Obj) : Array Obj := h.modify n fun
  | .cells _ t frozen => .cells (zs.map fun z => Value.int k z).toArray t frozen
  | o => o

/-- A world for the witnesses: the settled one, the tables holding what their initialisers lay. -/
noncomputable def laidWorld (os : Os) : World :=
  { World.holding Tryd.prog os ⟨#[], #[], []⟩ with heap := setTab 4 .u8 b64Tab (setTab 3 .u8 b32Tab (setTab 2 .u64 Lib.pow10Tab (setTab 1 .u32 addsTab (setTab 0 .u32 firstTab (World.holding Tryd.prog os ⟨#[], #[], []⟩).heap)))) }

noncomputable def start : Array Value := #[.slice none 0 0]
theorem laid_met (os : Os) : laidMet Tryd.prog Rows.statusTextsRow.laid ((laidWorld os).forCall (fun _ _ => 0) ⟨#[], start, []⟩).memory :=
  laidMet_of_run' 8 (by kernel_rfl) (by kernel_rfl)
theorem reads (os : Os) {H : Type} (enc : TypeId × Value → H) : ∃ places, DataW.whole enc Tryd.prog ((laidWorld os).forCall (fun _ _ => 0) ⟨#[], start, []⟩).memory Tryd.f3.params.toList Rows.statusTextsSpec.vars false start.toList 8 =
    some ([.nil], [], places) :=
  ⟨[], by kernel_rfl⟩

theorem contract (H : Type) (enc : TypeId × Value → H) (W : World) (base : Nat) (args : Array Value) (ds gs : List (DataW H)) (before : List MemPlace)
    (hval : ∀ (j : Nat) t v, Tryd.f3.params[j]? = some t → args[j]? = some v → Value.okWide Tryd.prog W .any base t v)
    (hW : DataW.Whole enc Tryd.prog Tryd.f3.params.toList Rows.statusTextsSpec.vars false W args.toList ds gs before) (hL : laidMetH Tryd.prog Rows.statusTextsRow.laid W) :
    Calls Tryd.prog 3 args W fun e W' => ∃ v, e = .returned v ∧ Rows.statusTextsSpec.post enc Tryd.prog Tryd.f3 false true false false W args v W' := by
  have hW' := hW
  obtain ⟨p, q, hA0, hV, rfl, hfz, hnd⟩ := hW
  have hA : DataW.TrodAll enc Tryd.prog W 0 (fun _ => true) true Tryd.f3.params.toList args.toList ds p := hA0
  have hA1 := hA
  rw [Tryd.params3] at hA hval
  obtain ⟨v0, vs0, d0, ds0, p0, q0, hargs, rfl, rfl, h0, r0⟩ := trodAll_cons hA
  obtain ⟨rfl, rfl, rfl⟩ := trodAll_nil r0
  obtain rfl : args = #[v0] := by cases args; simp_all
  obtain ⟨rfl, rfl⟩ := trodVars_none hV
  clear hA0
  simp only [List.append_nil] at hW'
  have hlt : ∀ x ∈ p0 ++ ([] : List MemPlace), x.block < W.heap.size := fun x hx => by simpa using hW'.lt x (by simpa using hx)
  obtain ⟨f0, hf0⟩ := h0
  obtain ⟨ao, n, c, hts, txs, e0, hn, hH⟩ := open_items hf0
  have hv0 := hval 0 22 v0 rfl rfl
  simp only [Value.okWide, Tryd.underlying22] at hv0
  obtain rfl : v0 = .slice ao n c := by
    cases v0 with
    | agg cells => exact absurd hv0 (by simp [Cell.okWide, Cell.ok, Tryd.underlying22])
    | _ => simp_all [Value.cells]
  refine (law_texts _ _ ao n c hts txs W hn hH (laid_of hL)).mono fun e W' ⟨he, hb⟩ => ?_
  refine ⟨_, he, _, _, _, [], _, [], hW', trodAll_mk1 (shut_bool Tryd.underlying4 true), below_trodAll hb _ _ _ _ ?_ ?_ hA1, rfl, hb.frame _, fun h => by cases h⟩
  · intro t ht'
    rw [Tryd.params3] at ht'
    simp only [List.mem_cons, List.not_mem_nil, or_false] at ht'
    obtain rfl := ht'
    exact ⟨by kernel_rfl, of_decide_eq_true (by kernel_rfl)⟩
  · intro x hx'
    exact hlt x (by simpa using hx')

set_option maxRecDepth 100000 in
theorem lifted (os : Os) (started : os.Started) (H : Type) (enc : TypeId × Value → H) (F : Stop.Interp) :
    ReturnsInHanded {} Tryd.checked os 3 .any ((OpenSpec.ofChange Rows.statusTextsSpec).preRow enc Tryd.prog Tryd.f3 Rows.statusTextsRow.domain false Rows.statusTextsRow.laid) (((OpenSpec.ofChange Rows.statusTextsSpec).at F).post enc Tryd.prog Tryd.f3 false true false false) := by
  obtain ⟨places, hx⟩ := reads os enc
  refine returnsInHanded_of_row (C := Tryd.checked) (s := OpenSpec.ofChange Rows.statusTextsSpec) own started (by kernel_rfl) Tryd.func3
    (witness_row_at (enc := enc) (C := Tryd.checked) false (laidWorld os) start rfl (by kernel_rfl) (by kernel_rfl) (by kernel_rfl)
      (OpenSpec.preRow_of_cond 8 hx (by kernel_rfl) (fun k hk => by cases hk) (by kernel_rfl) (laid_met os))) ?_
  intro W base args ds gs before hval hW _ _ _ hL _ _
  exact contract H enc W base args ds gs before hval hW hL

theorem said : Rows.StatusTextsSaid :=
  OpenClaim.holds_of_cond 3 Tryd.f3 rfl rfl rfl rfl rfl rfl rfl ⟨rfl, rfl, rfl, rfl, rfl⟩ rfl rfl rfl rfl rfl (by kernel_rfl) Tryd.func3 (by kernel_rfl)
    (of_decide_eq_true (by kernel_rfl)) (by unfold Func.isWrapper; first | (rw [if_pos (by decide +kernel)]; kernel_rfl) | (rw [if_neg (by decide +kernel)]; exact ⟨rfl, rfl⟩))
    (fun os started H enc _ F => by rw [OpenClaim.pre_eq_preRow]; exact lifted os started H enc F)

/-- No parameter wants a stand-in; the program's own looks are off. -/
theorem plain (f : FuncId) (fn : Func) (hf : Tryd.pinned.checked.prog.funcNamed "tailrace/tailracelaw21.StatusTexts" = some f) (hfn : Tryd.pinned.checked.prog.funcs[f]? = some fn) :
    false = Tryd.pinned.checked.prog.looks [] ∧ ∀ (j : Nat) t, fn.params[j]? = some t → Tryd.pinned.checked.prog.wantsStandIn t = false := by
  obtain rfl : f = 3 := Option.some.inj ((show Tryd.prog.funcNamed "tailrace/tailracelaw21.StatusTexts" = some 3 by kernel_rfl).symm.trans hf) |>.symm
  obtain rfl : fn = Tryd.f3 := (Option.some.inj (Tryd.func3.symm.trans hfn)).symm
  refine ⟨by kernel_rfl, fun j t ht => ?_⟩
  rw [Tryd.params3] at ht
  have hm : t = 22 := by simpa using Array.mem_of_getElem? ht
  subst hm
  exact (show Tryd.prog.wantsStandIn 22 = false by kernel_rfl)

/-- The card. -/
theorem card : Rows.StatusTextsCardSaid :=
  Claim7.holds_tied_plain_at .later [] _ _ _ _ said (fun _ h => by cases h) (by kernel_rfl) (fun _ h => by cases h) statusTexts_row_tie rfl ⟨rfl, rfl⟩ (by kernel_rfl) rfl plain (by kernel_rfl)
#print axioms card
end Go.Proofs.YtaknoodgpkdhbaaDoor.statusTexts
