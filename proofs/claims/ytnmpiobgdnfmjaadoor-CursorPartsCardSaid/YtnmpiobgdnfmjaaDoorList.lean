/- slices.Clone at entries and at cursors; cursor.List and cursor.Many. -/
import Derived.Test.YtnmpiobgdnfmjaaDoorCur
import Derived.Laws.AppendOwn
import Derived.OwnWalk
import Derived.Lib.SliceRun
import Derived.Deep.RegionHeld
namespace Go.Proofs.YtnmpiobgdnfmjaaDoor
open Go Go.RowKit

theorem infoE : (Tryd.prog.info? 30).map (fun i => (i.zero, i.size, i.bytes)) = some (some (.agg #[.string ⟨#[]⟩, .int .u64 0, .bool false, .string ⟨#[]⟩]), 4, 48) := by kernel_rfl
theorem infoC : (Tryd.prog.info? 32).map (fun i => (i.zero, i.size, i.bytes)) = some (some (.pointer none), 1, 8) := by kernel_rfl

theorem cellsE_one (es : List Ent) : ∀ u ∈ cellsE es, u.oneCell' = true := by
  intro u hu
  obtain ⟨x, _, hx⟩ := List.mem_flatMap.1 hu
  simp only [List.mem_cons, List.not_mem_nil, or_false] at hx
  rcases hx with rfl | rfl | rfl | rfl <;> rfl
theorem cellsE_append (a b : List Ent) : cellsE (a ++ b) = cellsE a ++ cellsE b := by simp [cellsE]

theorem cellsE_take (es : List Ent) (p : Nat) : cellsE (es.take p) = (cellsE es).take (p * 4) := by
  induction es generalizing p with
  | nil => simp [cellsE]
  | cons x r ih =>
    cases p with
    | zero => simp [cellsE]
    | succ p =>
      show x.cs ++ cellsE (r.take p) = (x.cs ++ cellsE r).take ((p + 1) * 4)
      have h4 : x.cs.length = 4 := rfl
      rw [ih, List.take_append, List.take_of_length_le (l := x.cs) (by rw [h4]; omega), h4, show (p + 1) * 4 - 4 = p * 4 by omega]
theorem cellsE_drop (es : List Ent) (p : Nat) : cellsE (es.drop p) = (cellsE es).drop (p * 4) := by
  induction es generalizing p with
  | nil => simp [cellsE]
  | cons x r ih =>
    cases p with
    | zero => simp [cellsE]
    | succ p =>
      show cellsE (r.drop p) = (x.cs ++ cellsE r).drop ((p + 1) * 4)
      have h4 : x.cs.length = 4 := rfl
      rw [ih, List.drop_append, h4, show (p + 1) * 4 - 4 = p * 4 by omega, List.drop_eq_nil_of_le (show x.cs.length ≤ (p + 1) * 4 by rw [h4]; omega), List.nil_append]

/-- the cells of a slice of entries, one by one -/
theorem SlE.cells {w : World} {ad : Addr} {es : List Ent} (h : SlE w (some ad) es) : ∀ j u, (cellsE es)[j]? = some u → w.cell? (ad.add j) = some u := by
  intro j u hu
  have hj : j < es.length * 4 := by have := (List.getElem?_eq_some_iff.1 hu).1; rwa [cellsE_length] at this
  have hk : j / 4 < es.length := by omega
  obtain ⟨b, o, h1, _, h3⟩ := h (j / 4) es[j / 4] (List.getElem?_eq_getElem hk)
  cases h1
  have hm : j % 4 < es[j / 4].cs.length := by show j % 4 < 4; omega
  have h4 := h3 (j % 4) _ (List.getElem?_eq_getElem hm)
  have h5 := cellsE_get (List.getElem?_eq_getElem hk) (j % 4) _ (List.getElem?_eq_getElem hm)
  rw [show j / 4 * 4 + j % 4 = j by omega, hu] at h5
  cases h5
  have e1 : (⟨b, o, none⟩ : Addr).add j = ⟨b, o + j, none⟩ := Addr.add_lit b o j
  rw [e1]
  rw [show o + j / 4 * 4 + j % 4 = o + j by omega] at h4
  exact h4

/-- what an owned row of entries is -/
theorem SlE.ofOwns {w : World} {base : Nat} {v : Value} {n : Nat} {es : List Ent} (h : w.ownsRow base 30 4 v n (cellsE es)) :
    ∃ ao cp, v = .slice ao n cp ∧ n = es.length ∧ n ≤ cp ∧ cp ≤ maxLen ∧ SlE w ao es ∧ ∀ a, ao = some a → base ≤ a.block ∧ a.block < w.heap.size := by
  have hn : n = es.length := by have := h.1; rw [cellsE_length] at this; omega
  obtain ⟨h1, ⟨rfl, h0⟩ | ⟨g, cap, cur, rfl, hb, hg, hnc, hcm, hsz, hcur⟩⟩ := h
  · refine ⟨none, 0, by rw [h0], hn, by omega, by unfold maxLen; omega, ?_, fun a ha => by cases ha⟩
    have : es = [] := List.length_eq_zero_iff.1 (by omega)
    rw [this]; exact SlE.nil _ _
  · have hlt : g < w.heap.size := (Array.getElem?_eq_some_iff.1 hg).1
    refine ⟨_, _, rfl, hn, hnc, hcm, fun k x hx => ⟨g, 0, rfl, hlt, fun j u hu => ?_⟩, fun a ha => by cases ha; exact ⟨hb, hlt⟩⟩
    have h5 := cellsE_get hx j u hu
    rw [cell_of_row w g _ cur _ (0, 0) hg]
    rw [← hcur, List.getElem?_take] at h5
    split at h5
    · simpa using h5
    · cases h5

/-- a slice of entries of the call's own is handed back -/
def OwnE (es : List Ent) (nn : Prop) (w : World) (e : Ending) (w' : World) : Prop := ∃ ao' cp, e = .returned (.slice ao' es.length cp) ∧ es.length ≤ cp ∧ cp ≤ maxLen ∧ SlE w' ao' es ∧ (∀ a, ao' = some a → w.heap.size ≤ a.block ∧ a.block < w'.heap.size) ∧ Below w.heap.size w w' ∧ (nn → ao' ≠ none)

set_option maxHeartbeats 1000000 in
set_option maxRecDepth 100000 in
theorem cloneE_any (w : World) (ao : Option Addr) (c : Nat) (es : List Ent) (h : SlE w ao es) (hn : es.length ≤ 10000) (hnil : ao = none → c = 0 ∧ es.length = 0) :
    Calls Tryd.prog 14 #[.slice ao es.length c] w (OwnE es (ao ≠ none) w) := by
  obtain ⟨i0, hi, hz0, hz1, hz2⟩ := info_parts infoE
  obtain ⟨n, hn'⟩ : ∃ n, n = es.length := ⟨_, rfl⟩
  rw [← hn'] at hn hnil ⊢
  have Hhn := Lib.hid hn
  cases ao with
  | none =>
    obtain ⟨rfl, rfl⟩ := hnil rfl
    have hes : es = [] := List.length_eq_zero_iff.1 hn'.symm
    have Hes := Lib.hid hes
    clear hn' hes hn
    have heq : ∀ w, (binOp .eql 22 (.slice none 0 0) (.slice none 0 0)).run Tryd.prog w = .ok (.bool true) w := fun w => Lib.run_eql_slice_nil w _ _ none 0 0 0 0 Tryd.underlying22
    go_enter Tryd.func14, Tryd.ntmps14
    go_wp2
    go_ret
    refine ⟨none, 0, ?_, ?_, by unfold maxLen; omega, ?_, fun a ha => (by cases ha), Below.refl _ _, fun h => by simp at h⟩
    · rw [Hes.out]; rfl
    · rw [Hes.out]; exact Nat.le_refl _
    rw [Hes.out]; exact SlE.nil _ _
  | some ad =>
    have Hn' := Lib.hid hn'
    clear hn' hnil
    have hcl := h.cells
    have Hcl := Lib.hid hcl
    clear hcl
    have heq : ∀ w, (binOp .eql 22 (.slice (some ad) n c) (.slice none 0 0)).run Tryd.prog w = .ok (.bool false) w := fun w => Lib.run_eql_slice_nil w _ _ (some ad) n c 0 0 Tryd.underlying22
    have hown : (w.alloc (.cells #[] 30)).ownsRow w.heap.size 30 4 (.slice (some ⟨w.heap.size, 0, none⟩) 0 0) 0 [] := World.ownsRow_made w #[] 0 (Nat.le_refl _) (by unfold maxLen; omega) rfl
    go_enter Tryd.func14, Tryd.ntmps14
    go_wp2_with (at_builtin; refine wpList_append_own _ rfl _ _ 22 rfl w.heap.size 30 i0 _ 4 48 Tryd.underlying22 hi hz0 hz1 hz2 rfl (by decide) (.slice (some ⟨w.heap.size, 0, none⟩) 0 0) 0 [] rfl hown ad n c (cellsE es) rfl (by rw [cellsE_length, Hn'.out]) (fun j u hu => (World.cell?_alloc_some _ _ _ (by rw [Hcl.out j u hu]; rfl)).trans (Hcl.out j u hu)) (cellsE_one es) (by unfold maxLen; have := Hhn.out; omega) (by have := Hhn.out; omega) (by simp) ?_; intro v' w1 hown1 hgrow1 hnn)
    rw [List.nil_append] at hown1
    have hnn' : v' ≠ .slice none 0 0 := fun e => by have := (hnn.1 e).1; cases this
    have hnz : ∀ n, v' ≠ .slice none n 0 := fun n e => by
      rcases hown1.2 with ⟨e1, _⟩ | ⟨g, cap, cur, e1, _⟩
      · exact hnn' e1
      · rw [e] at e1; cases e1
    clear hnn
    have hao : ∀ ao' n cp, v' = .slice ao' n cp → ao' ≠ none := fun ao' n cp e hn => by
      rcases hown1.2 with ⟨e1, _⟩ | ⟨g, cap, cur, e1, _⟩
      · exact hnn' e1
      · rw [e, hn] at e1; cases e1
    clear hnn' hnz
    obtain ⟨ao', cp, rfl, hl, h1, h2, h3, h4⟩ := SlE.ofOwns hown1
    rw [Nat.zero_add] at hl h1
    go_ret
    have hb1 : Below w.heap.size w w1 := ((Below.refl _ _).alloc (Nat.le_refl _) (.cells #[] 30)).grown hgrow1 (by simp) (fun k hk => by cases hk; exact Nat.le_refl _)
    refine ⟨ao', cp, ?_, by omega, h2, h3, h4, hb1, fun _ => hao _ _ _ rfl⟩
    rw [Nat.zero_add, Hn'.out]
    rfl

/-- a slice of one-cell values that can be read -/
def Sl1 (w : World) (ao : Option Addr) (vs : List Value) : Prop := ∀ k v, vs[k]? = some v → ∃ b o, ao = some ⟨b, o, none⟩ ∧ b < w.heap.size ∧ w.cell? ⟨b, o + k, none⟩ = some v
theorem Sl1.below {w w' : World} {ao : Option Addr} {vs : List Value} (h : Sl1 w ao vs) (hb : Below w.heap.size w w') : Sl1 w' ao vs := fun k x hx => by
  obtain ⟨b, o, h1, h2, h3⟩ := h k x hx
  exact ⟨b, o, h1, Nat.lt_of_lt_of_le h2 hb.size, (hb.cell (p := ⟨b, o + k, none⟩) h2).trans h3⟩
theorem Sl1.chg {S : Nat → Prop} {w w' : World} {ao : Option Addr} {vs : List Value} (h : Sl1 w ao vs) (hb : Chg S w w') (hn : ∀ a, ao = some a → ¬ S a.block) : Sl1 w' ao vs := fun k x hx => by
  obtain ⟨b, o, h1, h2, h3⟩ := h k x hx
  exact ⟨b, o, h1, Nat.lt_of_lt_of_le h2 hb.size, (hb.cell (p := ⟨b, o + k, none⟩) h2 (hn ⟨b, o, none⟩ h1)).trans h3⟩
theorem Sl1.nil (w : World) (ao : Option Addr) : Sl1 w ao [] := fun k y hy => by simp at hy
theorem Sl1.cells {w : World} {ad : Addr} {vs : List Value} (h : Sl1 w (some ad) vs) : ∀ j u, vs[j]? = some u → w.cell? (ad.add j) = some u := by
  intro j u hu
  obtain ⟨b, o, h1, _, h3⟩ := h j u hu
  cases h1
  have e1 : (⟨b, o, none⟩ : Addr).add j = ⟨b, o + j, none⟩ := Addr.add_lit b o j
  rw [e1]
  exact h3
theorem Sl1.ofOwns {w : World} {base : Nat} {v : Value} {n : Nat} {T : TypeId} {vs : List Value} (h : w.ownsRow base T 1 v n vs) :
    ∃ ao cp, v = .slice ao n cp ∧ n = vs.length ∧ n ≤ cp ∧ cp ≤ maxLen ∧ Sl1 w ao vs ∧ ∀ a, ao = some a → base ≤ a.block ∧ a.block < w.heap.size := by
  have hn : n = vs.length := by have := h.1; omega
  obtain ⟨h1, ⟨rfl, h0⟩ | ⟨g, cap, cur, rfl, hb, hg, hnc, hcm, hsz, hcur⟩⟩ := h
  · refine ⟨none, 0, by rw [h0], hn, by omega, by unfold maxLen; omega, ?_, fun a ha => by cases ha⟩
    have : vs = [] := List.length_eq_zero_iff.1 (by omega)
    rw [this]; exact Sl1.nil _ _
  · have hlt : g < w.heap.size := (Array.getElem?_eq_some_iff.1 hg).1
    refine ⟨_, _, rfl, hn, hnc, hcm, fun k x hx => ⟨g, 0, rfl, hlt, ?_⟩, fun a ha => by cases ha; exact ⟨hb, hlt⟩⟩
    rw [cell_of_row w g _ cur _ (0, 0) hg]
    rw [← hcur, List.getElem?_take] at hx
    split at hx
    · simpa using hx
    · cases hx
def Own1 (vs : List Value) (w : World) (e : Ending) (w' : World) : Prop := ∃ ao' cp, e = .returned (.slice ao' vs.length cp) ∧ vs.length ≤ cp ∧ cp ≤ maxLen ∧ Sl1 w' ao' vs ∧ (∀ a, ao' = some a → w.heap.size ≤ a.block ∧ a.block < w'.heap.size) ∧ Below w.heap.size w w'

set_option maxHeartbeats 1000000 in
set_option maxRecDepth 100000 in
theorem cloneC_any (w : World) (ad : Addr) (c : Nat) (vs : List Value) (h : Sl1 w (some ad) vs) (h1 : ∀ u ∈ vs, u.oneCell' = true) (hn : vs.length ≤ 10000) :
    Calls Tryd.prog 15 #[.slice (some ad) vs.length c] w (Own1 vs w) := by
  obtain ⟨i0, hi, hz0, hz1, hz2⟩ := info_parts infoC
  obtain ⟨n, hn'⟩ : ∃ n, n = vs.length := ⟨_, rfl⟩
  rw [← hn'] at hn ⊢
  have Hhn := Lib.hid hn
  have Hn' := Lib.hid hn'
  clear hn' hn
  have hcl := h.cells
  have Hcl := Lib.hid hcl
  clear hcl
  have heq : ∀ w, (binOp .eql 27 (.slice (some ad) n c) (.slice none 0 0)).run Tryd.prog w = .ok (.bool false) w := fun w => Lib.run_eql_slice_nil w _ _ (some ad) n c 0 0 Tryd.underlying27
  have hown : (w.alloc (.cells #[] 32)).ownsRow w.heap.size 32 1 (.slice (some ⟨w.heap.size, 0, none⟩) 0 0) 0 [] := World.ownsRow_made w #[] 0 (Nat.le_refl _) (by unfold maxLen; omega) rfl
  go_enter Tryd.func15, Tryd.ntmps15
  go_wp2_with (at_builtin; refine wpList_append_own _ rfl _ _ 27 rfl w.heap.size 32 i0 _ 1 8 Tryd.underlying27 hi hz0 hz1 hz2 rfl (by decide) (.slice (some ⟨w.heap.size, 0, none⟩) 0 0) 0 [] rfl hown ad n c vs rfl (by rw [Hn'.out, Nat.mul_one]) (fun j u hu => (World.cell?_alloc_some _ _ _ (by rw [Hcl.out j u hu]; rfl)).trans (Hcl.out j u hu)) h1 (by unfold maxLen; have := Hhn.out; omega) (by have := Hhn.out; omega) (by simp) ?_; intro v' w1 hown1 hgrow1 _)
  rw [List.nil_append] at hown1
  obtain ⟨ao', cp, rfl, hl, h1, h2, h3, h4⟩ := Sl1.ofOwns hown1
  rw [Nat.zero_add] at hl h1
  go_ret
  have hb1 : Below w.heap.size w w1 := ((Below.refl _ _).alloc (Nat.le_refl _) (.cells #[] 32)).grown hgrow1 (by simp) (fun k hk => by cases hk; exact Nat.le_refl _)
  refine ⟨ao', cp, ?_, by omega, h2, h3, h4, hb1⟩
  rw [Nat.zero_add, Hn'.out]
  rfl

def NewL (es : List Ent) (nn : Prop) (w : World) (e : Ending) (w' : World) : Prop := ∃ b g, e = .returned (.pointer (some ⟨b, 0, none⟩)) ∧ w.heap.size ≤ b ∧ w.heap.size ≤ g ∧ b < w'.heap.size ∧ CurL w' b g es ∧ Below w.heap.size w w' ∧ (nn → g < w'.heap.size)

set_option maxHeartbeats 1000000 in
theorem list_any (w : World) (ao : Option Addr) (c : Nat) (es : List Ent) (h : SlE w ao es) (hn : es.length ≤ 10000) (hnil : ao = none → c = 0 ∧ es.length = 0) :
    Calls Tryd.prog 7 #[.slice ao es.length c] w (NewL es (ao ≠ none) w) := by
  go_enter Tryd.func7, Tryd.ntmps7
  go_wp2_with fail
  refine (cloneE_any w ao c es h hn hnil).mono ?_
  rintro e w1 ⟨ao', cp, rfl, h1, h2, h3, h4, hb1, hnn⟩
  have Hnn := Lib.hid hnn
  clear hnn
  go_wp2
  go_ret
  have hlt : ∀ a, ao' = some a → a.block ≠ w1.heap.size := fun a ha => by have := (h4 a ha).2; omega
  have hsz := hb1.size
  have hm : maxLen = 9223372036854775807 := by decide
  have hcp : cp ≤ 9223372036854775807 := by omega
  have hbl := Blk.new w1 #[.int .i64 1, .slice ao' es.length cp, .pointer none, .int .i64 0, .slice none 0 0, .int .i64 0] 47
  cases ao' with
  | none => exact ⟨w1.heap.size, w1.heap.size + 1, rfl, hsz, by omega, by simp, ⟨none, cp, ⟨hbl, h1, hcp, (fun k x hx => by obtain ⟨_, _, h5, _⟩ := h3 k x hx; cases h5), (fun a ha => by cases ha), (show w1.heap.size + 1 ≠ w1.heap.size by omega)⟩⟩, hb1.alloc hsz _, fun h => absurd rfl (Hnn.out h)⟩
  | some a => exact ⟨w1.heap.size, a.block, rfl, hsz, (h4 a rfl).1, by simp, ⟨some a, cp, ⟨hbl, h1, hcp, h3.below' ((Below.refl _ _).alloc (Nat.le_refl _) _), (fun a' ha => by cases ha; rfl), hlt a rfl⟩⟩, hb1.alloc hsz _, fun _ => by have := (h4 a rfl).2; simp; omega⟩
end Go.Proofs.YtnmpiobgdnfmjaaDoor
