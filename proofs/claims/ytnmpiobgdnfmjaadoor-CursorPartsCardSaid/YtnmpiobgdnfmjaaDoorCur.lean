/- Cursors over lists: fill, Peek, Next. -/
import Derived.Test.YtnmpiobgdnfmjaaDoorEnt
namespace Go.Proofs.YtnmpiobgdnfmjaaDoor
open Go Go.RowKit

/-- the cells of entries -/
def cellsE (es : List Ent) : List Value := es.flatMap Ent.cs
theorem cellsE_length (es : List Ent) : (cellsE es).length = es.length * 4 := by
  induction es with
  | nil => rfl
  | cons x r ih => simp [cellsE, Ent.cs] at ih ⊢; omega
theorem cellsE_get {es : List Ent} {k : Nat} {x : Ent} (h : es[k]? = some x) : ∀ j v, x.cs[j]? = some v → (cellsE es)[k * 4 + j]? = some v := by
  induction es generalizing k with
  | nil => simp at h
  | cons y r ih =>
    intro j v hv
    have hj : j < 4 := by have := (List.getElem?_eq_some_iff.1 hv).1; simpa using this
    cases k with
    | zero =>
      simp at h
      subst h
      show (Ent.cs y ++ cellsE r)[0 * 4 + j]? = some v
      rw [List.getElem?_append_left (by simp; omega)]
      simpa using hv
    | succ k =>
      show (Ent.cs y ++ cellsE r)[(k + 1) * 4 + j]? = some v
      rw [List.getElem?_append_right (by simp; omega)]
      have := ih (k := k) (by simpa using h) j v hv
      rw [← this]
      congr 1
      simp
      omega

/-- a slice of entries that can be read -/
def SlE (w : World) (ao : Option Addr) (es : List Ent) : Prop := ∀ k x, es[k]? = some x → ∃ b o, ao = some ⟨b, o, none⟩ ∧ b < w.heap.size ∧ w.rangeAt b (o + k * 4) x.cs
theorem SlE.below {w w' : World} {ao : Option Addr} {es : List Ent} (h : SlE w ao es) {B : Nat} (hb : Below B w w') (hB : ∀ a, ao = some a → a.block < B) : SlE w' ao es := fun k x hx => by
  obtain ⟨b, o, h1, h2, h3⟩ := h k x hx
  exact ⟨b, o, h1, Nat.lt_of_lt_of_le h2 hb.size, rangeAt_below h3 hb (hB _ h1)⟩
theorem SlE.below' {w w' : World} {ao : Option Addr} {es : List Ent} (h : SlE w ao es) (hb : Below w.heap.size w w') : SlE w' ao es := fun k x hx => by
  obtain ⟨b, o, h1, h2, h3⟩ := h k x hx
  exact ⟨b, o, h1, Nat.lt_of_lt_of_le h2 hb.size, rangeAt_below h3 hb h2⟩
theorem SlE.chg {S : Nat → Prop} {w w' : World} {ao : Option Addr} {es : List Ent} (h : SlE w ao es) (hb : Chg S w w') (hn : ∀ a, ao = some a → a.block < w.heap.size → ¬ S a.block) : SlE w' ao es := fun k x hx => by
  obtain ⟨b, o, h1, h2, h3⟩ := h k x hx
  exact ⟨b, o, h1, Nat.lt_of_lt_of_le h2 hb.size, rangeAt_chg h3 hb h2 (hn _ h1 h2)⟩

theorem SlE.tail {w : World} {b o : Nat} {x : Ent} {r : List Ent} (h : SlE w (some ⟨b, o, none⟩) (x :: r)) : SlE w (some ⟨b, o + 4, none⟩) r := fun k y hy => by
  obtain ⟨b', o', h1, h2, h3⟩ := h (k + 1) y (by simpa using hy)
  cases h1
  exact ⟨b, o + 4, rfl, h2, by rw [show o + 4 + k * 4 = o + (k + 1) * 4 by omega]; exact h3⟩
theorem SlE.nil (w : World) (ao : Option Addr) : SlE w ao [] := fun k y hy => by simp at hy

/-- the cells of a cursor -/
abbrev curCs (kind : Int) (ls : Value) (f : Value) (page : Int) (al : Value) (bad : Int) : List Value := [.int .i64 kind, ls, f, .int .i64 page, al, .int .i64 bad]

/-- a cursor over a list: what is left of it; its cells lie in block g -/
structure CurA (w : World) (c g : Nat) (ao : Option Addr) (cp : Nat) (es : List Ent) : Prop where
  blk : Blk w c 47 (curCs 1 (.slice ao es.length cp) (.pointer none) 0 (.slice none 0 0) 0)
  cap : es.length ≤ cp
  len : cp ≤ 9223372036854775807
  sl : SlE w ao es
  at_ : ∀ a, ao = some a → a.block = g
  ne : g ≠ c
def CurL (w : World) (c g : Nat) (es : List Ent) : Prop := ∃ ao cp, CurA w c g ao cp es
theorem CurA.chg {S : Nat → Prop} {w w' : World} {c g cp : Nat} {ao : Option Addr} {es : List Ent} (h : CurA w c g ao cp es) (hc : Chg S w w') (h1 : ¬ S c) (h2 : g < w.heap.size → ¬ S g) : CurA w' c g ao cp es :=
  ⟨h.blk.chg hc h1, h.cap, h.len, h.sl.chg hc (fun a ha hl => by rw [h.at_ a ha] at hl ⊢; exact h2 hl), h.at_, h.ne⟩
theorem CurA.below {w w' : World} {c g cp : Nat} {ao : Option Addr} {es : List Ent} (h : CurA w c g ao cp es) (hb : Below w.heap.size w w') : CurA w' c g ao cp es :=
  ⟨h.blk.below hb h.blk.lt, h.cap, h.len, h.sl.below' hb, h.at_, h.ne⟩
theorem CurL.chg {S : Nat → Prop} {w w' : World} {c g : Nat} {es : List Ent} (h : CurL w c g es) (hc : Chg S w w') (h1 : ¬ S c) (h2 : g < w.heap.size → ¬ S g) : CurL w' c g es := by
  obtain ⟨ao, cp, h⟩ := h
  exact ⟨ao, cp, h.chg hc h1 h2⟩
theorem CurL.below {w w' : World} {c g : Nat} {es : List Ent} (h : CurL w c g es) (hb : Below w.heap.size w w') : CurL w' c g es := by
  obtain ⟨ao, cp, h⟩ := h
  exact ⟨ao, cp, h.below hb⟩
theorem CurL.glt {w : World} {c g : Nat} {x : Ent} {r : List Ent} (h : CurL w c g (x :: r)) : g < w.heap.size := by
  obtain ⟨ao, cp, h⟩ := h
  obtain ⟨b, o, h1, h2, _⟩ := h.sl 0 x rfl
  have := h.at_ _ h1
  exact this ▸ h2
theorem CurL.lt {w : World} {c g : Nat} {es : List Ent} (h : CurL w c g es) : c < w.heap.size := by
  obtain ⟨ao, cp, h⟩ := h
  exact h.blk.lt

theorem fill_list (w : World) (c : Nat) (k0 : w.cell? ⟨c, 0, none⟩ = some (.int .i64 1)) (k5 : w.cell? ⟨c, 5, none⟩ = some (.int .i64 0)) :
    Calls Tryd.prog 26 #[.pointer (some ⟨c, 0, none⟩)] w fun e w' => e = .returned (.int .i64 0) ∧ ∃ n, w' = w.drewN n := by
  go_enter Tryd.func26, Tryd.ntmps26
  go_wp2
  go_quiet (fail)
  go_wp2
  go_ret
  exact ⟨rfl, nq, rfl⟩

abbrev zeroE : Ent := ⟨⟨#[]⟩, 0, false, ⟨#[]⟩⟩

set_option maxHeartbeats 1000000 in
theorem peek_list (w : World) (c g : Nat) (es : List Ent) (hL : CurL w c g es) :
    Calls Tryd.prog 16 #[.pointer (some ⟨c, 0, none⟩)] w fun e w' => e = .returned (.tuple #[(es.headD zeroE).v, .bool (decide (0 < es.length)), .int .i64 0]) ∧ Below w.heap.size w w' := by
  obtain ⟨ao, cp, h⟩ := hL
  have k0 := h.blk.cell_some (j := 0) rfl
  have k1 := h.blk.cell_some (j := 1) rfl
  have k5 := h.blk.cell_some (j := 5) rfl
  have hc := h.blk.lt
  cases es with
  | nil =>
    go_enter Tryd.func16, Tryd.ntmps16
    go_wp2_with fail
    refine (fill_list _ _ ?_ ?_).mono ?_
    · go_simp
    · go_simp
    rintro e w' ⟨rfl, n, rfl⟩
    go_wp2
    refine bodyPost_ret (v := .tuple #[zeroE.v, .bool false, .int .i64 0]) (by simp [results, Tryd.results16, go_sem]) rfl ⟨rfl, ?_⟩
    iterate 4 refine below_set ?_ (Nat.le_refl _) _ _
    exact below_drewN' ((Below.refl _ _).alloc (Nat.le_refl _) _) _
  | cons x r =>
    obtain ⟨b, o, rfl, hb, hr⟩ := h.sl 0 x rfl
    obtain ⟨n, hn⟩ : ∃ n, n = (x :: r).length := ⟨_, rfl⟩
    have hcap := h.cap
    rw [← hn] at k1 hcap
    have hn1 : 1 ≤ n := by rw [hn]; simp
    have hn0 : ((n : Int) == 0) = false := by simp; omega
    have hn2 : (0 : Int) < n := by omega
    have hcp : n ≤ cp := hcap
    have hlen := h.len
    have q0 : w.cell? ⟨b, o, none⟩ = some (.string x.key) := by have := hr 0 _ rfl; simpa using this
    have q1 : w.cell? ⟨b, o + 1, none⟩ = some (.int .u64 x.seq) := by have := hr 1 _ rfl; simpa using this
    have q2 : w.cell? ⟨b, o + 2, none⟩ = some (.bool x.del) := by have := hr 2 _ rfl; simpa using this
    have q3 : w.cell? ⟨b, o + 3, none⟩ = some (.string x.val) := by have := hr 3 _ rfl; simpa using this
    clear hr hn
    go_enter Tryd.func16, Tryd.ntmps16
    go_wp2_with fail
    refine (fill_list _ _ ?_ ?_).mono ?_
    · go_simp
    · go_simp
    rintro e w' ⟨rfl, m, rfl⟩
    go_wp2
    refine bodyPost_ret (v := .tuple #[x.v, .bool true, .int .i64 0]) (by simp [results, Tryd.results16, go_sem]) rfl ⟨rfl, ?_⟩
    iterate 4 refine below_set ?_ (Nat.le_refl _) _ _
    exact below_drewN' ((Below.refl _ _).alloc (Nat.le_refl _) _) _

set_option maxHeartbeats 1000000 in
theorem next_nil (w : World) (c g : Nat) (h : CurL w c g []) :
    Calls Tryd.prog 9 #[.pointer (some ⟨c, 0, none⟩)] w fun e w' => e = .returned (.tuple #[zeroE.v, .bool false, .int .i64 0]) ∧ Below w.heap.size w w' := by
  go_enter Tryd.func9, Tryd.ntmps9
  go_wp2_with fail
  have hb : Below w.heap.size w (w.alloc zeroE.obj) := (Below.refl _ _).alloc (Nat.le_refl _) _
  refine (peek_list _ c g [] (h.below hb)).mono ?_
  rintro e w1 ⟨rfl, hb1⟩
  have hz : w.heap.size < w1.heap.size := by have := hb1.size; simp at this; omega
  obtain ⟨z0, z1, z2, z3, fz⟩ := ((Blk.new w zeroE.cs.toArray 30).below hb1 (by simp)).four
  go_wp2
  refine bodyPost_ret (v := .tuple #[zeroE.v, .bool false, .int .i64 0]) (by simp [results, Tryd.results9, go_sem, hz, z0, z1, z2, z3]) rfl ⟨rfl, ?_⟩
  refine Below.alloc ?_ (by simp; omega) _
  iterate 4 refine below_set ?_ (Nat.le_refl _) _ _
  exact hb.trans (hb1.mono (by simp))

/-- the world behind a list cursor's Next -/
theorem next_end (w w1 : World) (c b o n cp : Nat) (x : Ent) (r : List Ent) (h : CurA w c b (some ⟨b, o, none⟩) cp (x :: r)) (hbb : Below w.heap.size w w1) (hn : n = (x :: r).length)
    (ao' : Option Addr) (cp' : Nat) (h1 : r.length ≤ cp') (h2 : cp' ≤ 9223372036854775807) (h3 : ∀ a, ao' = some a → a.block = b) (h4 : r = [] ∨ ao' = some ⟨b, o + 4, none⟩) (W : World)
    (hW : W = (((((w1.setCell ⟨c, 1, none⟩ (.slice ao' r.length cp')).setCell ⟨w.heap.size, 0, none⟩ (.string x.key)).setCell ⟨w.heap.size, 1, none⟩ (.int .u64 x.seq)).setCell ⟨w.heap.size, 2, none⟩ (.bool x.del)).setCell ⟨w.heap.size, 3, none⟩ (.string x.val)).alloc (.cells #[.string x.key, .int .u64 x.seq, .bool x.del, .string x.val] 30)) :
    CurL W c b r ∧ Chg (fun k => k = c) w W := by
  have hlt := h.blk.lt
  have hcz : w.heap.size ≠ c := by omega
  have hk := h.blk.below hbb hlt
  have hnot : ∀ o' : Nat, (⟨w.heap.size, o', none⟩ : Addr).block < w.heap.size → (⟨w.heap.size, o', none⟩ : Addr).block = c := fun _ hh => absurd hh (Nat.lt_irrefl _)
  have hchg : Chg (fun k => k = c) w W := by
    rw [hW]
    exact ((((((Chg.ofBelow (S := fun k => k = c) hbb).setCell ⟨c, 1, none⟩ (fun _ => rfl) _).setCell ⟨w.heap.size, 0, none⟩ (hnot 0) _).setCell ⟨w.heap.size, 1, none⟩ (hnot 1) _).setCell ⟨w.heap.size, 2, none⟩ (hnot 2) _).setCell ⟨w.heap.size, 3, none⟩ (hnot 3) _).alloc _
  refine ⟨⟨ao', cp', ?_, h1, h2, ?_, h3, h.ne⟩, hchg⟩
  · rw [hW]
    exact (((((hk.set 1 _).other hcz _).other hcz _).other hcz _).other hcz _).alloc _
  · rcases h4 with rfl | rfl
    · exact SlE.nil _ _
    · exact (h.sl.chg hchg (fun a ha _ => by cases ha; exact h.ne)).tail

set_option maxHeartbeats 2000000 in
theorem next_cons (w : World) (c g : Nat) (x : Ent) (r : List Ent) (hL : CurL w c g (x :: r)) :
    Calls Tryd.prog 9 #[.pointer (some ⟨c, 0, none⟩)] w fun e w' => e = .returned (.tuple #[x.v, .bool true, .int .i64 0]) ∧ CurL w' c g r ∧ Chg (fun k => k = c) w w' := by
  obtain ⟨ao, cp, h⟩ := hL
  obtain ⟨b, o, rfl, hbw, hr⟩ := h.sl 0 x rfl
  obtain rfl : b = g := h.at_ _ rfl
  have hb : Below w.heap.size w (w.alloc zeroE.obj) := (Below.refl _ _).alloc (Nat.le_refl _) _
  obtain ⟨n, hn⟩ : ∃ n, n = (x :: r).length := ⟨_, rfl⟩
  have hcap := h.cap
  have hlen := h.len
  have hlt := h.blk.lt
  have hn1 : n = r.length + 1 := hn
  have hcp1 : 1 ≤ cp := by omega
  rw [← hn] at hcap
  have hn2 : (1 : Int) ≤ n := by omega
  have hn3 : (n : Int) ≤ cp := by omega
  have Hn1 := Lib.hid hn1
  clear hn1
  go_enter Tryd.func9, Tryd.ntmps9
  go_wp2_with fail
  refine (peek_list _ c b (x :: r) ⟨_, _, h.below hb⟩).mono ?_
  rintro e w1 ⟨rfl, hb1⟩
  have hz : w.heap.size < w1.heap.size := by have := hb1.size; simp at this; omega
  obtain ⟨z0, z1, z2, z3, fz⟩ := ((Blk.new w zeroE.cs.toArray 30).below hb1 (by simp)).four
  have hcz : c ≠ w.heap.size := by omega
  have hbb := hb.trans (hb1.mono (by simp))
  have hk := h.blk.below hbb hlt
  have hc1 : c < w1.heap.size := by omega
  rw [← hn] at hk
  obtain ⟨k0, k1, k2, k3, k4, k5, fk⟩ := hk.six
  have hpos : decide (0 < (x :: r).length) = true := by simp
  by_cases hcp : cp = 1
  · have hn10 : n = 1 := by have := Hn1.out; omega
    have hr0 : r = [] := List.length_eq_zero_iff.1 (by have := Hn1.out; omega)
    subst hcp
    have hn1 : (n : Int) ≤ 1 := by omega
    go_wp2
    refine bodyPost_ret (v := .tuple #[x.v, .bool true, .int .i64 0]) (by simp [results, Tryd.results9, go_sem, hz, z0, z1, z2, z3]) rfl ⟨rfl, ?_⟩
    exact next_end w w1 c b o n 1 x r h hbb hn (some ⟨b, o, none⟩) 0 (by rw [hr0]; simp) (by omega) (fun a ha => by cases ha; rfl) (.inl hr0) _ (by rw [hr0]; rfl)
  · have hcp' : 1 < cp := by omega
    go_wp2
    refine bodyPost_ret (v := .tuple #[x.v, .bool true, .int .i64 0]) (by simp [results, Tryd.results9, go_sem, hz, z0, z1, z2, z3]) rfl ⟨rfl, ?_⟩
    exact next_end w w1 c b o n cp x r h hbb hn (some ⟨b, o + 4, none⟩) (cp - 1) (by have := Hn1.out; omega) (by omega) (fun a ha => by cases ha; rfl) (.inr rfl) _ rfl
end Go.Proofs.YtnmpiobgdnfmjaaDoor
