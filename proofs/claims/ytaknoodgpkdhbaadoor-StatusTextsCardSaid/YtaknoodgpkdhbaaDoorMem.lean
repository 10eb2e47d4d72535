/- Rows of cells in a world, and what keeps them. -/
import Derived.WalkKit
import Derived.Deep.Draws
import Derived.WalkSpells
import Derived.Lib.Hide
import Derived.Deep.MidRow
namespace Go.Proofs.YtaknoodgpkdhbaaDoor
open Go Go.RowKit

/-- n cells of a block from o on -/
def Row (w : World) (b o n : Nat) (f : Nat → Value) : Prop := ∀ j, j < n → w.cell? ⟨b, o + j, none⟩ = some (f j)
/-- nothing of the block is frozen -/
def Free (w : World) (b : Nat) : Prop := ∀ j, w.frozen? ⟨b, j, none⟩ = false

theorem below_drewN' {B : Nat} {a w : World} (h : Below B a w) (n : Nat) : Below B a (w.drewN n) := ⟨h.os, h.tape, h.output, h.size, h.block⟩

theorem Row.at {w : World} {b n : Nat} {f : Nat → Value} (h : Row w b 0 n f) (j : Nat) (hj : j < n) : w.cell? ⟨b, j, none⟩ = some (f j) := by
  have := h j hj
  rwa [Nat.zero_add] at this
theorem Row.below {B : Nat} {w w' : World} {b o n : Nat} {f : Nat → Value} (h : Row w b o n f) (hb : Below B w w') (hB : b < B) : Row w' b o n f :=
  fun j hj => (hb.cell (p := ⟨b, o + j, none⟩) hB).trans (h j hj)
theorem Free.below {B : Nat} {w w' : World} {b : Nat} (h : Free w b) (hb : Below B w w') (hB : b < B) : Free w' b :=
  fun j => (hb.frozen (p := ⟨b, j, none⟩) hB).trans (h j)
theorem Row.drewN {w : World} {b o n : Nat} {f : Nat → Value} (h : Row w b o n f) (k : Nat) : Row (w.drewN k) b o n f := h
theorem Free.drewN {w : World} {b : Nat} (h : Free w b) (k : Nat) : Free (w.drewN k) b := h
theorem cell_other (w : World) {b b' o o' : Nat} (v : Value) (h : b ≠ b') : (w.setCell ⟨b, o, none⟩ v).cell? ⟨b', o', none⟩ = w.cell? ⟨b', o', none⟩ :=
  World.cell?_setCell_other w _ _ v (fun e => h (by injection e))
theorem Row.other {w : World} {b b' o o' n : Nat} {f : Nat → Value} (h : Row w b' o' n f) (hne : b ≠ b') (v : Value) : Row (w.setCell ⟨b, o, none⟩ v) b' o' n f :=
  fun j hj => (cell_other w v hne).trans (h j hj)
theorem Free.set {w : World} {b : Nat} (h : Free w b) (p : Addr) (v : Value) : Free (w.setCell p v) b := fun j => by rw [World.frozen?_setCell]; exact h j
theorem Row.set {w : World} {b o n : Nat} {f : Nat → Value} (h : Row w b o n f) {m : Nat} (hm : m < n) (v : Value) :
    Row (w.setCell ⟨b, o + m, none⟩ v) b o n (fun j => if j = m then v else f j) := by
  intro j hj
  show _ = some (if j = m then v else f j)
  by_cases e : j = m
  · subst e
    rw [if_pos rfl, World.cell?_setCell_same w _ _ (h _ hj)]
  · rw [if_neg e, World.cell?_setCell_other w _ _ _ (fun e' => e (by injection e' with _ h2; omega)), h _ hj]
theorem Row.set0 {w : World} {b n : Nat} {f : Nat → Value} (h : Row w b 0 n f) {m : Nat} (hm : m < n) (v : Value) :
    Row (w.setCell ⟨b, m, none⟩ v) b 0 n (fun j => if j = m then v else f j) := by
  have := h.set hm v
  rwa [Nat.zero_add] at this
theorem Row.alloc {w : World} {b o n : Nat} {f : Nat → Value} (h : Row w b o n f) (hb : b < w.heap.size) (x : Obj) : Row (w.alloc x) b o n f :=
  h.below ((Below.refl w.heap.size w).alloc (Nat.le_refl _) x) hb
theorem Free.alloc {w : World} {b : Nat} (h : Free w b) (hb : b < w.heap.size) (x : Obj) : Free (w.alloc x) b :=
  h.below ((Below.refl w.heap.size w).alloc (Nat.le_refl _) x) hb
theorem Row.new (w : World) (cs : Array Value) (t : TypeId) (f : Nat → Value) (n : Nat) (h : ∀ j, j < n → cs[j]? = some (f j)) : Row (w.alloc (.cells cs t)) w.heap.size 0 n f := by
  intro j hj
  rw [Nat.zero_add, World.cell?_alloc_new]
  exact h j hj
theorem Free.new (w : World) (cs : Array Value) (t : TypeId) : Free (w.alloc (.cells cs t)) w.heap.size := fun j => World.frozen?_alloc_new w cs t j
theorem Row.congr {w : World} {b o n : Nat} {f g : Nat → Value} (h : Row w b o n f) (e : ∀ j, j < n → g j = f j) : Row w b o n g := fun j hj => by rw [e j hj]; exact h j hj
theorem Row.sub {w : World} {b o n : Nat} {f : Nat → Value} (h : Row w b o n f) (k m : Nat) (hk : k + m ≤ n) : Row w b (o + k) m (fun j => f (k + j)) := fun j hj => by
  have := h (k + j) (by omega)
  rwa [← Nat.add_assoc] at this
theorem Row.set8 {w : World} {b : Nat} {f : Nat → Value} (h : Row w b 0 8 f) (v : Nat → Value) :
    Row ((((((((w.setCell ⟨b, 0, none⟩ (v 0)).setCell ⟨b, 1, none⟩ (v 1)).setCell ⟨b, 2, none⟩ (v 2)).setCell ⟨b, 3, none⟩ (v 3)).setCell ⟨b, 4, none⟩ (v 4)).setCell ⟨b, 5, none⟩ (v 5)).setCell ⟨b, 6, none⟩ (v 6)).setCell ⟨b, 7, none⟩ (v 7)) b 0 8 v := by
  refine ((((((((h.set0 (m := 0) (by omega) (v 0)).set0 (m := 1) (by omega) (v 1)).set0 (m := 2) (by omega) (v 2)).set0 (m := 3) (by omega) (v 3)).set0 (m := 4) (by omega) (v 4)).set0 (m := 5) (by omega) (v 5)).set0 (m := 6) (by omega) (v 6)).set0 (m := 7) (by omega) (v 7)).congr (fun j hj => ?_)
  rcases (show j = 0 ∨ j = 1 ∨ j = 2 ∨ j = 3 ∨ j = 4 ∨ j = 5 ∨ j = 6 ∨ j = 7 by omega) with rfl | rfl | rfl | rfl | rfl | rfl | rfl | rfl <;> rfl
theorem Row.eight {w : World} {b : Nat} {f : Nat → Value} (h : Row w b 0 8 f) :
    w.cell? ⟨b, 0, none⟩ = some (f 0) ∧ w.cell? ⟨b, 1, none⟩ = some (f 1) ∧ w.cell? ⟨b, 2, none⟩ = some (f 2) ∧ w.cell? ⟨b, 3, none⟩ = some (f 3) ∧
    w.cell? ⟨b, 4, none⟩ = some (f 4) ∧ w.cell? ⟨b, 5, none⟩ = some (f 5) ∧ w.cell? ⟨b, 6, none⟩ = some (f 6) ∧ w.cell? ⟨b, 7, none⟩ = some (f 7) :=
  ⟨h.at 0 (by omega), h.at 1 (by omega), h.at 2 (by omega), h.at 3 (by omega), h.at 4 (by omega), h.at 5 (by omega), h.at 6 (by omega), h.at 7 (by omega)⟩
theorem Free.eight {w : World} {b : Nat} (h : Free w b) :
    w.frozen? ⟨b, 0, none⟩ = false ∧ w.frozen? ⟨b, 1, none⟩ = false ∧ w.frozen? ⟨b, 2, none⟩ = false ∧ w.frozen? ⟨b, 3, none⟩ = false ∧
    w.frozen? ⟨b, 4, none⟩ = false ∧ w.frozen? ⟨b, 5, none⟩ = false ∧ w.frozen? ⟨b, 6, none⟩ = false ∧ w.frozen? ⟨b, 7, none⟩ = false :=
  ⟨h 0, h 1, h 2, h 3, h 4, h 5, h 6, h 7⟩
theorem Free.set8 {w : World} {b : Nat} (c : Nat) (h : Free w b) (v : Nat → Value) :
    Free ((((((((w.setCell ⟨c, 0, none⟩ (v 0)).setCell ⟨c, 1, none⟩ (v 1)).setCell ⟨c, 2, none⟩ (v 2)).setCell ⟨c, 3, none⟩ (v 3)).setCell ⟨c, 4, none⟩ (v 4)).setCell ⟨c, 5, none⟩ (v 5)).setCell ⟨c, 6, none⟩ (v 6)).setCell ⟨c, 7, none⟩ (v 7)) b :=
  (((((((h.set _ _).set _ _).set _ _).set _ _).set _ _).set _ _).set _ _).set _ _
theorem Row.other8 {w : World} {b c o n : Nat} {f : Nat → Value} (h : Row w b o n f) (hne : c ≠ b) (v : Nat → Value) :
    Row ((((((((w.setCell ⟨c, 0, none⟩ (v 0)).setCell ⟨c, 1, none⟩ (v 1)).setCell ⟨c, 2, none⟩ (v 2)).setCell ⟨c, 3, none⟩ (v 3)).setCell ⟨c, 4, none⟩ (v 4)).setCell ⟨c, 5, none⟩ (v 5)).setCell ⟨c, 6, none⟩ (v 6)).setCell ⟨c, 7, none⟩ (v 7)) b o n f :=
  (((((((h.other hne _).other hne _).other hne _).other hne _).other hne _).other hne _).other hne _).other hne _
theorem below_set8 {B c : Nat} {a w : World} (h : Below B a w) (hc : B ≤ c) (v : Nat → Value) :
    Below B a ((((((((w.setCell ⟨c, 0, none⟩ (v 0)).setCell ⟨c, 1, none⟩ (v 1)).setCell ⟨c, 2, none⟩ (v 2)).setCell ⟨c, 3, none⟩ (v 3)).setCell ⟨c, 4, none⟩ (v 4)).setCell ⟨c, 5, none⟩ (v 5)).setCell ⟨c, 6, none⟩ (v 6)).setCell ⟨c, 7, none⟩ (v 7)) :=
  (((((((h.setCell hc _).setCell hc _).setCell hc _).setCell hc _).setCell hc _).setCell hc _).setCell hc _).setCell hc _
/-- a row as a list of values -/
def lst (n : Nat) (f : Nat → Value) : List Value := (List.range n).map f
theorem lst_length (n : Nat) (f : Nat → Value) : (lst n f).length = n := by simp [lst]
theorem lst_get {n : Nat} {f : Nat → Value} {j : Nat} (h : j < n) : (lst n f)[j]? = some (f j) := by simp [lst, List.getElem?_range h]
theorem lst_get' {n : Nat} {f : Nat → Value} {j : Nat} {v : Value} (h : (lst n f)[j]? = some v) : j < n ∧ v = f j := by
  have hj : j < n := by rw [← lst_length n f]; exact (List.getElem?_eq_some_iff.1 h).1
  rw [lst_get hj] at h
  exact ⟨hj, (Option.some.inj h).symm⟩
theorem lst_congr {n : Nat} {f g : Nat → Value} (h : ∀ j, j < n → f j = g j) : lst n f = lst n g := List.map_congr_left fun j hj => h j (List.mem_range.1 hj)
theorem Row.range {w : World} {b o n : Nat} {f : Nat → Value} (h : Row w b o n f) : w.rangeAt b o (lst n f) := fun j v hv => by
  obtain ⟨hj, rfl⟩ := lst_get' hv
  exact h j hj
theorem Row.of_range {w : World} {b o n : Nat} {f : Nat → Value} (h : w.rangeAt b o (lst n f)) : Row w b o n f := fun j hj => h j _ (lst_get hj)
theorem Row.there {w : World} {b o n : Nat} {f : Nat → Value} (h : Row w b o n f) (hf : Free w b) : w.there b o n := fun j hj => ⟨by rw [h j hj]; rfl, hf _⟩
theorem Row.setCells {w : World} {b o n : Nat} {f : Nat → Value} (h : Row w b o n f) (hf : Free w b) (g : Nat → Value) : Row (w.setCells b o (lst n g)) b o n g :=
  Row.of_range (World.rangeAt_setCells_same w b o _ (by rw [lst_length]; exact h.there hf))
theorem Row.setCells_other {w : World} {b o n : Nat} {f : Nat → Value} (h : Row w b o n f) {c o' : Nat} (hne : c ≠ b) (vs : List Value) : Row (w.setCells c o' vs) b o n f := fun j hj => by
  rw [World.cell?_setCells_out c vs o' w _ (fun e => absurd e.symm hne)]; exact h j hj
theorem Free.setCells {w : World} {b : Nat} (h : Free w b) (c o : Nat) (vs : List Value) : Free (w.setCells c o vs) b := fun j => by rw [World.frozen?_setCells]; exact h j
theorem below_setCells {B : Nat} {a : World} {c : Nat} (hc : B ≤ c) : ∀ (vs : List Value) (o : Nat) {w : World}, Below B a w → Below B a (w.setCells c o vs)
  | [], _, _, h => h
  | v :: r, o, w, h => by
    rw [World.setCells]
    exact below_setCells hc r (o + 1) (h.setCell hc v)
theorem size_setCells (c : Nat) : ∀ (vs : List Value) (o : Nat) (w : World), (w.setCells c o vs).heap.size = w.heap.size
  | [], _, _ => rfl
  | v :: r, o, w => by
    rw [World.setCells, size_setCells c r]
    simp [World.setCell]
theorem one_all {n : Nat} {f : Nat → Value} (h : ∀ j, (f j).oneCell' = true) : (lst n f).toArray.all (·.oneCell') = true :=
  all_oneCell_toArray fun v hv => by
    obtain ⟨j, _, rfl⟩ := List.mem_map.1 hv
    exact h j
/-- a result that lies in a cell of several cells -/
theorem results_mid {P : Program} {fn : Func} {p : Tmp} {ty : TypeId} (h : fn.results = #[.cell p ty]) (tmps : Array Value) (w : World) (g o : Nat) (cs : List Value) (d : TypeDesc)
    (hp : tmps.getD p undef = .pointer (some ⟨g, o, none⟩)) (hc : w.rangeAt g o cs) (hu : P.underlying ty = some d) (hd : d.isRow = true) (hi : (P.info? ty).map (·.size) = some cs.length) :
    (results fn tmps).run P w = .ok (.agg cs.toArray) w := by
  have hp' : tmps[p]?.getD undef = .pointer (some ⟨g, o, none⟩) := by simpa using hp
  simp [results, h, hp', asAddr, run_loadVar_mid w g o ty cs d hc hu hd hi]
/-- a slice's length -/
def lenOf : Value → Nat
  | .slice _ n _ => n
  | _ => 0
end Go.Proofs.YtaknoodgpkdhbaaDoor
