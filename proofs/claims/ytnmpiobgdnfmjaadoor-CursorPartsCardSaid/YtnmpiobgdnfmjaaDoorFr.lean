/- What a call turns: 'Chg S w w'': nothing that was there but blocks of S; and blocks that are known whole. -/
import Derived.WalkKit
import Derived.Deep.Draws
import Derived.WalkSpells
import Derived.Lib.Hide
import Derived.Deep.MidRow
import Derived.ChangeKeysEq
namespace Go.Proofs.YtnmpiobgdnfmjaaDoor
open Go Go.RowKit

/-- of what was there nothing has turned but blocks of S -/
structure Chg (S : Nat → Prop) (w w' : World) : Prop where
  os : w'.os = w.os
  tape : w'.tape = w.tape
  output : w'.output = w.output
  size : w.heap.size ≤ w'.heap.size
  block : ∀ k, k < w.heap.size → ¬ S k → w'.heap[k]? = w.heap[k]?

theorem Chg.refl (S : Nat → Prop) (w : World) : Chg S w w := ⟨rfl, rfl, rfl, Nat.le_refl _, fun _ _ _ => rfl⟩
theorem Chg.trans {S T : Nat → Prop} {a b c : World} (h : Chg S a b) (k : Chg T b c) (hT : ∀ j, j < a.heap.size → T j → S j) : Chg S a c :=
  ⟨k.os.trans h.os, k.tape.trans h.tape, k.output.trans h.output, Nat.le_trans h.size k.size, fun i hi hn =>
    (k.block i (Nat.lt_of_lt_of_le hi h.size) (fun ht => hn (hT i hi ht))).trans (h.block i hi hn)⟩
theorem Chg.trans' {S : Nat → Prop} {a b c : World} (h : Chg S a b) (k : Chg S b c) : Chg S a c := h.trans k (fun _ _ h => h)
theorem Chg.mono {S T : Nat → Prop} {a b : World} (h : Chg S a b) (hT : ∀ j, j < a.heap.size → S j → T j) : Chg T a b :=
  ⟨h.os, h.tape, h.output, h.size, fun i hi hn => h.block i hi (fun hs => hn (hT i hi hs))⟩
theorem Chg.drew {S : Nat → Prop} {a w : World} (h : Chg S a w) : Chg S a w.drew := ⟨h.os, h.tape, h.output, h.size, h.block⟩
theorem Chg.drewN {S : Nat → Prop} {a w : World} (h : Chg S a w) (n : Nat) : Chg S a (w.drewN n) := ⟨h.os, h.tape, h.output, h.size, h.block⟩
theorem Chg.alloc {S : Nat → Prop} {a w : World} (h : Chg S a w) (o : Obj) : Chg S a (w.alloc o) :=
  h.trans' ⟨rfl, rfl, rfl, by simp, fun k hk _ => Below.heap_alloc _ _ _ hk⟩
theorem Chg.setCell {S : Nat → Prop} {a w : World} (h : Chg S a w) (p : Addr) (hp : p.block < a.heap.size → S p.block) (u : Value) : Chg S a (w.setCell p u) :=
  h.trans (T := fun j => j = p.block) ⟨rfl, rfl, rfl, by simp [World.setCell], fun k _ hn => Below.heap_setCell _ _ _ _ hn⟩ (fun j hj e => by subst e; exact hp hj)
theorem Chg.ofBelow {S : Nat → Prop} {w w' : World} (h : Below w.heap.size w w') : Chg S w w' := ⟨h.os, h.tape, h.output, h.size, fun k hk _ => h.block k hk⟩
theorem Chg.below {S : Nat → Prop} {a b c : World} (h : Chg S a b) (k : Below b.heap.size b c) : Chg S a c := h.trans' (.ofBelow k)
theorem Chg.ofGrown {w w' : World} {row : Option Nat} (h : w.grownBy w' row) : Chg (fun k => row = some k) w w' := ⟨h.os, h.tape, h.output, h.size, fun k hk hn => h.block k hk (fun e => hn e.symm)⟩
theorem Chg.toBelow {S : Nat → Prop} {w w' : World} (h : Chg S w w') {B : Nat} (hB : B ≤ w.heap.size) (hS : ∀ k, k < B → ¬ S k) : Below B w w' := ⟨h.os, h.tape, h.output, h.size, fun k hk => h.block k (by omega) (hS k hk)⟩
theorem Chg.toBelow' {S : Nat → Prop} {w w' : World} (h : Chg S w w') (hS : ∀ k, k < w.heap.size → ¬ S k) : Below w.heap.size w w' := h.toBelow (Nat.le_refl _) hS
theorem Chg.cell {S : Nat → Prop} {w w' : World} (h : Chg S w w') {p : Addr} (hp : p.block < w.heap.size) (hn : ¬ S p.block) : w'.cell? p = w.cell? p := World.cell?_of_block (w := w) (h.block _ hp hn)
theorem Chg.frozen {S : Nat → Prop} {w w' : World} (h : Chg S w w') {p : Addr} (hp : p.block < w.heap.size) (hn : ¬ S p.block) : w'.frozen? p = w.frozen? p := World.frozen?_of_block (w := w) (h.block _ hp hn)

/-- the two rules behind a call that only makes memory -/
theorem bcell {W w1 : World} (hb : Below W.heap.size W w1) : (∀ b o, b < W.heap.size → w1.cell? ⟨b, o, none⟩ = W.cell? ⟨b, o, none⟩) ∧ (∀ b o, b < W.heap.size → w1.frozen? ⟨b, o, none⟩ = W.frozen? ⟨b, o, none⟩) :=
  ⟨fun b o h => hb.cell (p := ⟨b, o, none⟩) h, fun b o h => hb.frozen (p := ⟨b, o, none⟩) h⟩

/-- block b is known whole, nothing of it is frozen -/
def Blk (w : World) (b : Nat) (T : TypeId) (vs : List Value) : Prop := w.heap[b]? = some (.cells vs.toArray T (0, 0))
theorem Blk.lt {w : World} {b : Nat} {T : TypeId} {vs : List Value} (h : Blk w b T vs) : b < w.heap.size := (Array.getElem?_eq_some_iff.1 h).1
theorem Blk.chg {S : Nat → Prop} {w w' : World} {b : Nat} {T : TypeId} {vs : List Value} (h : Blk w b T vs) (hc : Chg S w w') (hn : ¬ S b) : Blk w' b T vs := (hc.block b h.lt hn).trans h
theorem Blk.below {B : Nat} {w w' : World} {b : Nat} {T : TypeId} {vs : List Value} (h : Blk w b T vs) (hb : Below B w w') (hB : b < B) : Blk w' b T vs := (hb.block b hB).trans h
theorem Blk.drewN {w : World} {b : Nat} {T : TypeId} {vs : List Value} (h : Blk w b T vs) (k : Nat) : Blk (w.drewN k) b T vs := h
theorem Blk.drew {w : World} {b : Nat} {T : TypeId} {vs : List Value} (h : Blk w b T vs) : Blk w.drew b T vs := h
theorem Blk.alloc {w : World} {b : Nat} {T : TypeId} {vs : List Value} (h : Blk w b T vs) (o : Obj) : Blk (w.alloc o) b T vs := (Below.heap_alloc w o b h.lt).trans h
theorem Blk.new (w : World) (vs : Array Value) (T : TypeId) : Blk (w.alloc (.cells vs T)) w.heap.size T vs.toList := by
  show (w.alloc (.cells vs T)).heap[w.heap.size]? = _
  rw [heap_alloc_new]
theorem Blk.cell {w : World} {b : Nat} {T : TypeId} {vs : List Value} (h : Blk w b T vs) (j : Nat) : w.cell? ⟨b, j, none⟩ = vs[j]? := by
  unfold Blk at h
  simp [World.cell?, h]
theorem Blk.cell_some {w : World} {b : Nat} {T : TypeId} {vs : List Value} (h : Blk w b T vs) {j : Nat} {v : Value} (hv : vs[j]? = some v) : w.cell? ⟨b, j, none⟩ = some v := (h.cell j).trans hv
theorem Blk.free {w : World} {b : Nat} {T : TypeId} {vs : List Value} (h : Blk w b T vs) (j : Nat) : w.frozen? ⟨b, j, none⟩ = false := by
  unfold Blk at h
  simp [World.frozen?, h]
theorem Blk.other {w : World} {b : Nat} {T : TypeId} {vs : List Value} (h : Blk w b T vs) {p : Addr} (hp : p.block ≠ b) (u : Value) : Blk (w.setCell p u) b T vs :=
  (Below.heap_setCell w p u b (fun e => hp e.symm)).trans h
theorem Blk.set {w : World} {b : Nat} {T : TypeId} {vs : List Value} (h : Blk w b T vs) (j : Nat) (u : Value) : Blk (w.setCell ⟨b, j, none⟩ u) b T (vs.set j u) := by
  unfold Blk at h ⊢
  simp only [World.setCell, Array.getElem?_modify, h, Option.map_some]
  simp
theorem Blk.range {w : World} {b : Nat} {T : TypeId} {vs : List Value} (h : Blk w b T vs) : w.rangeAt b 0 vs := fun j v hv => by rw [Nat.zero_add]; exact h.cell_some hv

theorem Blk.news {w : World} {b : Nat} {T : TypeId} {vs : List Value} (h : Blk w b T vs) : ∀ j u, vs[j]? = some u → w.cell? ((⟨b, 0, none⟩ : Addr).add j) = some u := fun j u hu => by
  rw [Addr.add_lit, Nat.zero_add]; exact h.cell_some hu
theorem Blk.one {w : World} {b : Nat} {T : TypeId} {a0 : Value} (h : Blk w b T [a0]) : w.cell? ⟨b, 0, none⟩ = some a0 ∧ ∀ j, w.frozen? ⟨b, j, none⟩ = false := ⟨h.cell 0, h.free⟩
theorem Blk.two {w : World} {b : Nat} {T : TypeId} {a0 a1 : Value} (h : Blk w b T [a0, a1]) : w.cell? ⟨b, 0, none⟩ = some a0 ∧ w.cell? ⟨b, 1, none⟩ = some a1 ∧ ∀ j, w.frozen? ⟨b, j, none⟩ = false := ⟨h.cell 0, h.cell 1, h.free⟩
theorem Blk.three {w : World} {b : Nat} {T : TypeId} {a0 a1 a2 : Value} (h : Blk w b T [a0, a1, a2]) : w.cell? ⟨b, 0, none⟩ = some a0 ∧ w.cell? ⟨b, 1, none⟩ = some a1 ∧ w.cell? ⟨b, 2, none⟩ = some a2 ∧ ∀ j, w.frozen? ⟨b, j, none⟩ = false := ⟨h.cell 0, h.cell 1, h.cell 2, h.free⟩
theorem Blk.four {w : World} {b : Nat} {T : TypeId} {a0 a1 a2 a3 : Value} (h : Blk w b T [a0, a1, a2, a3]) : w.cell? ⟨b, 0, none⟩ = some a0 ∧ w.cell? ⟨b, 1, none⟩ = some a1 ∧ w.cell? ⟨b, 2, none⟩ = some a2 ∧ w.cell? ⟨b, 3, none⟩ = some a3 ∧ ∀ j, w.frozen? ⟨b, j, none⟩ = false :=
  ⟨h.cell 0, h.cell 1, h.cell 2, h.cell 3, h.free⟩
theorem Blk.five {w : World} {b : Nat} {T : TypeId} {a0 a1 a2 a3 a4 : Value} (h : Blk w b T [a0, a1, a2, a3, a4]) : w.cell? ⟨b, 0, none⟩ = some a0 ∧ w.cell? ⟨b, 1, none⟩ = some a1 ∧ w.cell? ⟨b, 2, none⟩ = some a2 ∧ w.cell? ⟨b, 3, none⟩ = some a3 ∧ w.cell? ⟨b, 4, none⟩ = some a4 ∧ ∀ j, w.frozen? ⟨b, j, none⟩ = false :=
  ⟨h.cell 0, h.cell 1, h.cell 2, h.cell 3, h.cell 4, h.free⟩
theorem Blk.six {w : World} {b : Nat} {T : TypeId} {a0 a1 a2 a3 a4 a5 : Value} (h : Blk w b T [a0, a1, a2, a3, a4, a5]) : w.cell? ⟨b, 0, none⟩ = some a0 ∧ w.cell? ⟨b, 1, none⟩ = some a1 ∧ w.cell? ⟨b, 2, none⟩ = some a2 ∧ w.cell? ⟨b, 3, none⟩ = some a3 ∧ w.cell? ⟨b, 4, none⟩ = some a4 ∧ w.cell? ⟨b, 5, none⟩ = some a5 ∧ ∀ j, w.frozen? ⟨b, j, none⟩ = false :=
  ⟨h.cell 0, h.cell 1, h.cell 2, h.cell 3, h.cell 4, h.cell 5, h.free⟩
theorem owns_below {w w' : World} {base : Nat} {e : TypeId} {size : Nat} {v : Value} {n : Nat} {xs : List Value} (h : w.ownsRow base e size v n xs) (hb : Below w.heap.size w w') : w'.ownsRow base e size v n xs :=
  h.kept (row := none) ⟨hb.os, hb.tape, hb.output, hb.size, fun k hk _ => hb.block k hk⟩ (by cases v.ownBlock <;> simp)
theorem owns_base {w : World} {base base' : Nat} {e : TypeId} {size : Nat} {v : Value} {n : Nat} {xs : List Value} (h : w.ownsRow base e size v n xs) (hb : base' ≤ base) : w.ownsRow base' e size v n xs := by
  obtain ⟨h1, h2⟩ := h
  refine ⟨h1, ?_⟩
  rcases h2 with h2 | ⟨g, cap, cur, hv, hg, r⟩
  · exact .inl h2
  · exact .inr ⟨g, cap, cur, hv, by omega, r⟩
theorem below_grown {B : Nat} {w w' : World} {row : Option Nat} (h : w.grownBy w' row) (hB : B ≤ w.heap.size) (hr : ∀ k, row = some k → B ≤ k) : Below B w w' := (Below.refl B w).grown h hB hr
theorem below_set {B : Nat} {a w : World} (h : Below B a w) {b : Nat} (hB : B ≤ b) (o : Nat) (u : Value) : Below B a (w.setCell ⟨b, o, none⟩ u) := h.setCell (p := ⟨b, o, none⟩) hB u
theorem below_drewN' {B : Nat} {a w : World} (h : Below B a w) (n : Nat) : Below B a (w.drewN n) := ⟨h.os, h.tape, h.output, h.size, h.block⟩
theorem rangeAt_below {B : Nat} {w w' : World} {b o : Nat} {cs : List Value} (h : w.rangeAt b o cs) (hb : Below B w w') (hB : b < B) : w'.rangeAt b o cs :=
  fun j v hv => (hb.cell (p := ⟨b, o + j, none⟩) hB).trans (h j v hv)
theorem rangeAt_chg {S : Nat → Prop} {w w' : World} {b o : Nat} {cs : List Value} (h : w.rangeAt b o cs) (hb : Chg S w w') (hB : b < w.heap.size) (hn : ¬ S b) : w'.rangeAt b o cs :=
  fun j v hv => (hb.cell (p := ⟨b, o + j, none⟩) hB hn).trans (h j v hv)
theorem rangeAt_part {w : World} {b o : Nat} {cs ds : List Value} (h : w.rangeAt b o cs) (k : Nat) (hd : ∀ j v, ds[j]? = some v → cs[k + j]? = some v) : w.rangeAt b (o + k) ds :=
  fun j v hv => by rw [Nat.add_assoc]; exact h (k + j) v (hd j v hv)
end Go.Proofs.YtnmpiobgdnfmjaaDoor
