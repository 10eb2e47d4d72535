/- Entries opened out of arguments. -/
import Derived.Test.YtnmpiobgdnfmjaaDoorLaw
import Derived.Test.YtnmpiobgdnfmjaaDoorCards
import Derived.Test.YtnmpiobgdnfmjaaDoorTie
import Derived.WalkKit
import Derived.ProofKit
import Derived.OpenShut
import Derived.Carry
import Derived.Deep.Fields
import Derived.Deep.DeepHandedRow
import Derived.Lib.LaidTab
import Derived.Stop.LaidErr
namespace Go.Proofs.YtnmpiobgdnfmjaaDoor
open Go.ChangeShapes Go.WideShapes Go.ChangeAt Go.RowKit

theorem own : ownKnob Tryd.prog.godebug = none := by kernel_rfl
theorem laidOut : laidOutB Tryd.prog = true := by kernel_rfl

section
variable {H : Type} {enc : TypeId × Value → H} {w : World} {base : Nat} {sp : Nat → Bool} {held : Bool}

/-- Each argument reads behind the call as before it. -/
theorem below_trodAll {H : Type} {enc : TypeId × Value → H} {W W' : World} (hb : Below W.heap.size W W') : ∀ (ts : List TypeId) (vs : List Value) (ds : List (DataW H)) (ps : List MemPlace),
    (∀ t ∈ ts, Tryd.prog.readableRec t = true ∧ t < Tryd.prog.types.size) → (∀ x ∈ ps, x.block < W.heap.size) → DataW.TrodAll enc Tryd.prog W 0 (fun _ => true) true ts vs ds ps →
    DataW.TrodAll enc Tryd.prog W' 0 (fun b => decide (b < W.heap.size)) true ts vs ds ps
  | [], [], [], _, _, _, h => h
  | t :: ts, v :: vs, d :: ds, ps, hts, hlt, h => by
    obtain ⟨p, q, h1, h2, rfl⟩ := h
    exact ⟨p, q, Below.trod laidOut (hts t (by simp)).1 (hts t (by simp)).2 h1 hb (fun x hx => hlt x (List.mem_append_left _ hx)),
      below_trodAll hb ts vs ds q (fun t' ht' => hts t' (by simp [ht'])) (fun x hx => hlt x (List.mem_append_right _ hx)) h2, rfl⟩
  | [], _ :: _, _, _, _, _, h => by cases h
  | [], [], _ :: _, _, _, _, h => by cases h
  | _ :: _, [], _, _, _, _, h => by cases h
  | _ :: _, _ :: _, [], _, _, _, h => by cases h

theorem list4 {α : Type} : ∀ l : List α, l.length = 4 → ∃ a b c d, l = [a, b, c, d]
  | [a, b, c, d], _ => ⟨a, b, c, d, rfl⟩
/-- An entry. -/
theorem open_entry {fuel : Nat} {cs : List Value} {x : DataW H × List MemPlace} (h : DataW.trod enc Tryd.prog w base sp held fuel 30 cs = some x) : ∃ e : Ent, cs = e.cs ∧ e.ok := by
  obtain ⟨xs, m, _, _, hl, hxl, hi⟩ := DataW.trod_struct Tryd.underlying30 h
  rw [show Tryd.prog.cellsOf 30 = 4 by kernel_rfl] at hl
  obtain ⟨x0, x1, x2, x3, rfl⟩ : ∃ x0 x1 x2 x3, xs = [x0, x1, x2, x3] := by
    match xs, hxl with
    | [x0, x1, x2, x3], _ => exact ⟨x0, x1, x2, x3, rfl⟩
  obtain ⟨c0, c1, c2, c3, rfl⟩ := list4 cs hl
  have k9 : Tryd.prog.cellsOf 9 = 1 := by kernel_rfl
  have k28 : Tryd.prog.cellsOf 28 = 1 := by kernel_rfl
  have k4 : Tryd.prog.cellsOf 4 = 1 := by kernel_rfl
  have i0 := hi 0 _ rfl
  change DataW.trod enc Tryd.prog w base sp held m 9 (([c0, c1, c2, c3].drop 0).take (Tryd.prog.cellsOf 9)) = some x0 at i0
  have i1 := hi 1 _ rfl
  change DataW.trod enc Tryd.prog w base sp held m 28 (([c0, c1, c2, c3].drop 1).take (Tryd.prog.cellsOf 28)) = some x1 at i1
  have i2 := hi 2 _ rfl
  change DataW.trod enc Tryd.prog w base sp held m 4 (([c0, c1, c2, c3].drop 2).take (Tryd.prog.cellsOf 4)) = some x2 at i2
  have i3 := hi 3 _ rfl
  change DataW.trod enc Tryd.prog w base sp held m 9 (([c0, c1, c2, c3].drop 3).take (Tryd.prog.cellsOf 9)) = some x3 at i3
  rw [k9] at i0 i3
  rw [k28] at i1
  rw [k4] at i2
  obtain ⟨s0, e0, _, w0⟩ := DataW.trod_string Tryd.underlying9 i0
  obtain ⟨z1, e1, _, w1⟩ := DataW.trod_int Tryd.underlying28 i1
  obtain ⟨b2, e2, _⟩ := DataW.trod_bool Tryd.underlying4 i2
  obtain ⟨s3, e3, _, w3⟩ := DataW.trod_string Tryd.underlying9 i3
  simp only [List.drop_zero, List.drop_succ_cons, List.take_succ_cons, List.take_zero, List.cons.injEq, and_true] at e0 e1 e2 e3
  subst e0 e1 e2 e3
  have a1 : IntKind.u64.min = 0 := rfl
  have a2 : IntKind.u64.max = 18446744073709551615 := rfl
  have hz : 0 ≤ z1 ∧ z1 ≤ 18446744073709551615 := by simpa [Lit.wf, a1, a2] using w1
  have hm : maxLen = 9223372036854775807 := by decide
  exact ⟨⟨s0, z1, b2, s3⟩, rfl, ⟨hz.1, by have := hz.2; show z1 < _; omega, by show s0.size ≤ _; omega, by show s3.size ≤ _; omega⟩⟩

/-- A slice of entries. -/
theorem open_entries {fuel : Nat} {cs : List Value} {x : DataW H × List MemPlace} (h : DataW.trod enc Tryd.prog w base sp held fuel 22 cs = some x) :
    ∃ (ao : Option Addr) (cp : Nat) (es : List Ent), cs = [.slice ao es.length cp] ∧ SlE w ao es ∧ (∀ x, x ∈ es → x.ok) ∧ es.length ≤ cp ∧ cp ≤ 9223372036854775807 := by
  have hm : maxLen = 9223372036854775807 := by decide
  rcases DataW.trod_slice Tryd.underlying22 h with ⟨rfl, _⟩ | ⟨a, len, cap, elems, rest, m, _, rfl, rfl, hb, hlc, hcm, hel, hi, _, _⟩
  · exact ⟨none, 0, [], rfl, SlE.nil _ _, fun x hx => by simp at hx, Nat.le_refl _, by omega⟩
  · rw [show Tryd.prog.cellsOf 30 = 4 by kernel_rfl] at hi
    have hz : ∀ i, i < len → ∃ e : Ent, e.ok ∧ ∀ j, j < 4 → w.cell? ((a.add (i * 4)).add j) = e.cs[j]? := by
      intro i hi'
      have := hi i hi'
      rw [List.getElem?_eq_getElem (by omega), Option.bind_eq_some_iff] at this
      obtain ⟨cs', hc, hit⟩ := this
      obtain ⟨_, hcl, hcc⟩ := World.cells?_some hc
      obtain ⟨e, rfl, he⟩ := open_entry hit
      exact ⟨e, he, fun j hj => hcc j hj⟩
    by_cases hl0 : len = 0
    · subst hl0
      exact ⟨some a, cap, [], rfl, SlE.nil _ _, fun x hx => by simp at hx, by simp, by omega⟩
    obtain ⟨b, o, spot⟩ := a
    have hspot : spot = none := by
      obtain ⟨e, _, h0⟩ := hz 0 (by omega)
      have h1 : w.cell? (((⟨b, o, spot⟩ : Addr).add (0 * 4)).add 0) = some (.string e.key) := (h0 0 (by omega)).trans rfl
      simpa [Addr.add] using World.cell?_spot h1
    subst hspot
    have hz' : ∀ i, ∃ e : Ent, i < len → e.ok ∧ ∀ j, j < 4 → w.cell? ⟨b, o + i * 4 + j, none⟩ = e.cs[j]? := by
      intro i
      by_cases hi : i < len
      · obtain ⟨e, he, hc⟩ := hz i hi
        refine ⟨e, fun _ => ⟨he, fun j hj => ?_⟩⟩
        have := hc j hj
        rw [add_plain, add_plain] at this
        exact this
      · exact ⟨zeroE, fun h => absurd h hi⟩
    refine ⟨some ⟨b, o, none⟩, cap, (List.range len).map fun i => Classical.choose (hz' i), by simp, fun k x hx => ?_, fun x hx => ?_, by simp; omega, by omega⟩
    · have hk : k < len := by have := (List.getElem?_eq_some_iff.1 hx).1; simpa using this
      rw [List.getElem?_map, List.getElem?_range hk] at hx
      simp only [Option.map_some, Option.some.injEq] at hx
      have hs := (Classical.choose_spec (hz' k)) hk
      rw [hx] at hs
      have h0 : w.cell? ⟨b, o + k * 4 + 0, none⟩ = some (.string x.key) := (hs.2 0 (by omega)).trans rfl
      exact ⟨b, o, rfl, World.block_lt_of_cell? w _ h0, fun j v hv => by
        have hj : j < 4 := by have := (List.getElem?_eq_some_iff.1 hv).1; simpa using this
        rw [hs.2 j hj]; exact hv⟩
    · obtain ⟨i, hi, rfl⟩ := List.mem_map.1 hx
      exact ((Classical.choose_spec (hz' i)) (List.mem_range.1 hi)).1
end
end Go.Proofs.YtnmpiobgdnfmjaaDoor
