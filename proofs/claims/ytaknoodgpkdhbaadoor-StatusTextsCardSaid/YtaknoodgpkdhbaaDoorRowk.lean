/- What the rows of this seat give: the tables, and each argument opened and shut. -/
import Derived.Test.YtaknoodgpkdhbaaDoorLawHolds
import Derived.Test.YtaknoodgpkdhbaaDoorCards
import Derived.Test.YtaknoodgpkdhbaaDoorTie
import Derived.WalkKit
import Derived.ProofKit
import Derived.OpenShut
import Derived.Carry
import Derived.Deep.Fields
import Derived.Deep.DeepHandedRow
import Derived.Lib.LaidTab
import Derived.Stop.LaidErr

namespace Go.Proofs.YtaknoodgpkdhbaaDoor
open Go.ChangeShapes Go.WideShapes Go.ChangeAt Go.RowKit

theorem own : ownKnob Tryd.prog.godebug = none := by kernel_rfl
theorem laidOut : laidOutB Tryd.prog = true := by kernel_rfl

def firstTab : List Int := [1779033703, 3144134277, 1013904242, 2773480762, 1359893119, 2600822924, 528734635, 1541459225]
def addsTab : List Int := [1116352408, 1899447441, 3049323471, 3921009573, 961987163, 1508970993, 2453635748, 2870763221, 3624381080, 310598401, 607225278, 1426881987, 1925078388, 2162078206, 2614888103, 3248222580, 3835390401, 4022224774, 264347078, 604807628, 770255983, 1249150122, 1555081692, 1996064986, 2554220882, 2821834349, 2952996808, 3210313671, 3336571891, 3584528711, 113926993, 338241895, 666307205, 773529912, 1294757372, 1396182291, 1695183700, 1986661051, 2177026350, 2456956037, 2730485921, 2820302411, 3259730800, 3345764771, 3516065817, 3600352804, 4094571909, 275423344, 430227734, 506948616, 659060556, 883997877, 958139571, 1322822218, 1537002063, 1747873779, 1955562222, 2024104815, 2227730452, 2361852424, 2428436474, 2756734187, 3204031479, 3329325298]
theorem gFirst : Tryd.prog.globalNamed "tailrace/sha.first" = some 0 := by kernel_rfl
theorem gAdds : Tryd.prog.globalNamed "tailrace/sha.adds" = some 1 := by kernel_rfl
theorem gPow : Tryd.prog.globalNamed "internal/strconv.uint64pow10" = some 2 := by kernel_rfl
theorem tFirst : (Tryd.prog.globals[0]?).map (·.type) = some 52 := by kernel_rfl
theorem tAdds : (Tryd.prog.globals[1]?).map (·.type) = some 60 := by kernel_rfl
theorem tPow : (Tryd.prog.globals[2]?).map (·.type) = some 71 := by kernel_rfl

/-- What the row's list gives. -/
theorem laid_of {W : World} (h : laidMet Tryd.prog [("math/bits.deBruijn32tab", Rows.laid_math_bits_deBruijn32tab), ("math/bits.deBruijn64tab", Rows.laid_math_bits_deBruijn64tab), ("internal/strconv.uint64pow10", Rows.laid_internal_strconv_uint64pow10), ("tailrace/sha.first", Rows.laid_tailrace_sha_first), ("tailrace/sha.adds", Rows.laid_tailrace_sha_adds)] W) :
    Laid (fun j => addsTab.getD j 0) (fun j => firstTab.getD j 0) W := by
  have h2 := h.tail.tail
  have h3 := h2.tail
  have h4 := h3.tail
  have p : Lib.TabIs Tryd.prog W "internal/strconv.uint64pow10" .u64 Lib.pow10Tab := Lib.tabIs_of_head (n := 20) gPow tPow Tryd.underlying71 Tryd.underlying55 (by kernel_rfl) (by kernel_rfl) h2
  have f : Lib.TabIs Tryd.prog W "tailrace/sha.first" .u32 firstTab := Lib.tabIs_of_head gFirst tFirst Tryd.underlying52 Tryd.underlying51 (by kernel_rfl) (by kernel_rfl) h3
  have a : Lib.TabIs Tryd.prog W "tailrace/sha.adds" .u32 addsTab := Lib.tabIs_of_head gAdds tAdds Tryd.underlying60 Tryd.underlying51 (by kernel_rfl) (by kernel_rfl) h4
  have c := World.block_lt_of_cell? W _ (p.cell gPow 0 (by decide))
  have c' : 2 < W.heap.size := c
  exact ⟨⟨by omega, fun j hj => a.cell gAdds j (by simpa [addsTab] using hj), fun j hj => f.cell gFirst j (by simpa [firstTab] using hj)⟩, c', p⟩

section
variable {H : Type} {enc : TypeId × Value → H} {w : World} {base : Nat} {sp : Nat → Bool} {held : Bool}

/-- A digest by value. -/
theorem open_hash {fuel : Nat} {cs : List Value} {x : DataW H × List MemPlace} (h : DataW.trod enc Tryd.prog w base sp held fuel 25 cs = some x) :
    ∃ f : Nat → Int, cs = lst 32 (u8c f) ∧ ∀ j, 0 ≤ f j ∧ f j ≤ 255 := by
  obtain ⟨xs, m, _, _, hl, hx, hi⟩ := DataW.trod_array Tryd.underlying25 h
  rw [show Tryd.prog.cellsOf 25 = 32 by kernel_rfl] at hl
  rw [show Tryd.prog.cellsOf 5 = 1 by kernel_rfl] at hi
  have hz : ∀ j, j < 32 → ∃ n : Int, cs[j]? = some (.int .u8 n) ∧ 0 ≤ n ∧ n ≤ 255 := by
    intro j hj
    have := hi j hj
    rw [Nat.mul_one, Deep.take1_drop cs j undef (by omega), List.getElem?_eq_getElem (by omega)] at this
    obtain ⟨n, e1, _, wf⟩ := DataW.trod_int Tryd.underlying5 this
    refine ⟨n, ?_, ?_⟩
    · simp only [List.getD_eq_getElem?_getD, List.getElem?_eq_getElem (show j < cs.length by omega), Option.getD_some, List.cons.injEq, and_true] at e1
      rw [List.getElem?_eq_getElem (by omega), e1]
    · have e1 : IntKind.u8.min = 0 := rfl
      have e2 : IntKind.u8.max = 255 := rfl
      simpa [Lit.wf, e1, e2] using wf
  refine ⟨fun j => if j < 32 then (match cs[j]? with | some (.int _ n) => n | _ => 0) else 0, ?_, ?_⟩
  · refine List.ext_getElem? fun j => ?_
    by_cases hj : j < 32
    · obtain ⟨n, e, _⟩ := hz j hj
      rw [e, lst_get hj]
      simp [u8c, hj, e]
    · rw [List.getElem?_eq_none (by omega), List.getElem?_eq_none (by rw [lst_length]; omega)]
  · intro j
    by_cases hj : j < 32
    · obtain ⟨n, e, hb⟩ := hz j hj
      simpa [hj, e] using hb
    · simp [hj]

/-- A slice of digests. -/
theorem open_hashes {fuel : Nat} {cs : List Value} {x : DataW H × List MemPlace} (h : DataW.trod enc Tryd.prog w base sp held fuel 36 cs = some x) (hlt : ∀ y ∈ x.2, y.block < w.heap.size) :
    ∃ (ao : Option Addr) (n c : Nat) (br : Nat → Nat → Int), cs = [.slice ao n c] ∧ n ≤ 9223372036854775807 ∧ (∀ i j, 0 ≤ br i j ∧ br i j ≤ 255) ∧
      ∀ i, i < n → ∃ b o, ao = some ⟨b, o, none⟩ ∧ b < w.heap.size ∧ Row w b (o + i * 32) 32 (u8c (br i)) := by
  rcases DataW.trod_slice Tryd.underlying36 h with ⟨rfl, _⟩ | ⟨a, len, cap, elems, rest, m, _, rfl, rfl, hb, hlc, hcm, hel, hi, _, _⟩
  · exact ⟨none, 0, 0, fun _ _ => 0, rfl, by omega, fun _ _ => ⟨Int.le_refl 0, show (0 : Int) ≤ 255 by decide⟩, fun i hi => by omega⟩
  · rw [show Tryd.prog.cellsOf 25 = 32 by kernel_rfl] at hi hlt
    have hz : ∀ i, i < len → ∃ f : Nat → Int, (∀ j, 0 ≤ f j ∧ f j ≤ 255) ∧ ∀ j, j < 32 → w.cell? ((a.add (i * 32)).add j) = some (u8c f j) := by
      intro i hi'
      have := hi i hi'
      rw [List.getElem?_eq_getElem (by omega), Option.bind_eq_some_iff] at this
      obtain ⟨cs', hc, ht⟩ := this
      obtain ⟨_, hcl, hcc⟩ := World.cells?_some hc
      obtain ⟨f, rfl, hf⟩ := open_hash ht
      exact ⟨f, hf, fun j hj => by rw [hcc j hj, lst_get hj]⟩
    have hm : maxLen = 9223372036854775807 := by decide
    by_cases hl0 : len = 0
    · exact ⟨some a, len, cap, fun _ _ => 0, rfl, by omega, fun _ _ => ⟨Int.le_refl 0, show (0 : Int) ≤ 255 by decide⟩, fun i hi => by omega⟩
    obtain ⟨b, o, spot⟩ := a
    have hspot : spot = none := by
      obtain ⟨f, _, h0⟩ := hz 0 (by omega)
      simpa [Addr.add] using World.cell?_spot (h0 0 (by omega))
    subst hspot
    have hz' : ∀ i, ∃ f : Nat → Int, (∀ j, 0 ≤ f j ∧ f j ≤ 255) ∧ (i < len → ∀ j, j < 32 → w.cell? ⟨b, o + i * 32 + j, none⟩ = some (u8c f j)) := by
      intro i
      by_cases hi : i < len
      · obtain ⟨f, hf, hc⟩ := hz i hi
        refine ⟨f, hf, fun _ j hj => ?_⟩
        have := hc j hj
        rw [add_plain, add_plain] at this
        exact this
      · exact ⟨fun _ => 0, fun _ => ⟨Int.le_refl 0, show (0 : Int) ≤ 255 by decide⟩, fun h => absurd h hi⟩
    refine ⟨some ⟨b, o, none⟩, len, cap, fun i => Classical.choose (hz' i), rfl, by omega, fun i => (Classical.choose_spec (hz' i)).1, fun i hi => ?_⟩
    have hs := (Classical.choose_spec (hz' i)).2 hi
    exact ⟨b, o, rfl, World.block_lt_of_cell? w _ (hs 0 (by omega)), hs⟩
end

/-- Each argument reads behind the call as before it. -/
theorem below_trodAll {H : Type} {enc : TypeId × Value → H} {W W' : World} (hb : Below W.heap.size W W') : ∀ (ts : List TypeId) (vs : List Value) (ds : List (DataW H)) (ps : List MemPlace),
    (∀ t ∈ ts, Tryd.prog.readableRec t = true ∧ t < Tryd.prog.types.size) → (∀ x ∈ ps, x.block < W.heap.size) → DataW.TrodAll enc Tryd.prog W 0 (fun _ => true) true ts vs ds ps →
    DataW.TrodAll enc Tryd.prog W' 0 (fun b => decide (b < W.heap.size)) true ts vs ds ps
  | [], [], [], _, _, _, h => h
  | t :: ts, v :: vs, d :: ds, ps, hts, hlt, h => by
    obtain ⟨p, q, h1, h2, rfl⟩ := h
    exact ⟨p, q, Below.trod laidOut (hts t (by simp)).1 (hts t (by simp)).2 h1 hb (fun x hx => hlt x (List.mem_append_left _ hx)),
      below_trodAll hb ts vs ds q (fun t' ht' => hts t' (by simp [ht'])) (fun x hx => hlt x (List.mem_append_right _ hx)) h2, rfl⟩
  | [], _ :: _, _, _, _, _, h => by cases h
  | [], [], _ :: _, _, _, _, h => by cases h
  | _ :: _, [], _, _, _, _, h => by cases h
  | _ :: _, _ :: _, [], _, _, _, h => by cases h
end Go.Proofs.YtaknoodgpkdhbaaDoor
