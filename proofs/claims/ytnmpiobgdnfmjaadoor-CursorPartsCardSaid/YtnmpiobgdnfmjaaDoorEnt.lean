/- Entries: Check and Cmp of package key. -/
import Derived.Test.YtnmpiobgdnfmjaaDoorFr
import Derived.Test.YtnmpiobgdnfmjaaDoorShelf
import Derived.Test.YtnmpiobgdnfmjaaDoorRows
import Derived.WalkLawsBesides
import Derived.Deep.QuietTactic
import Derived.BigQuiet
import Derived.Outline
import Derived.Deep.Light
namespace Go.Proofs.YtnmpiobgdnfmjaaDoor
open Go Go.RowKit

structure Ent where
  key : ByteArray
  seq : Int
  del : Bool
  val : ByteArray
deriving DecidableEq
abbrev Ent.cs (x : Ent) : List Value := [.string x.key, .int .u64 x.seq, .bool x.del, .string x.val]
abbrev Ent.v (x : Ent) : Value := .agg #[.string x.key, .int .u64 x.seq, .bool x.del, .string x.val]
abbrev Ent.obj (x : Ent) : Obj := .cells #[.string x.key, .int .u64 x.seq, .bool x.del, .string x.val] 30
/-- what a program can hold -/
structure Ent.ok (x : Ent) : Prop where
  s0 : 0 ≤ x.seq
  s1 : x.seq < 18446744073709551616
  k : x.key.size ≤ 9223372036854775807
  v : x.val.size ≤ 9223372036854775807

def chkE (x : Ent) : Int :=
  if x.key.size = 0 ∨ 72057594037927935 < x.seq ∨ (x.del = true ∧ x.val.size ≠ 0) then 1
  else if 128 < x.key.size ∨ 65536 < x.val.size then 6 else 0
def cmpK (a b : ByteArray) : Int := Lib.compareBytes a.data.toList b.data.toList
def cmpE (x y : Ent) : Int := if cmpK x.key y.key ≠ 0 then cmpK x.key y.key else if y.seq < x.seq then -1 else if x.seq < y.seq then 1 else 0

theorem size_toList (b : ByteArray) : b.toList = [] ↔ b.size = 0 := by
  rw [ByteArray.toList_eq]
  obtain ⟨⟨l⟩⟩ := b
  show l = [] ↔ l.length = 0
  simp
theorem size_empty (b : ByteArray) : b = ByteArray.empty ↔ b.size = 0 := by
  constructor
  · rintro rfl; rfl
  · intro h
    obtain ⟨⟨l⟩⟩ := b
    have : l.length = 0 := h
    have : l = [] := List.length_eq_zero_iff.1 this
    subst this
    rfl
theorem isEmpty_size (b : ByteArray) : b.toList.isEmpty = decide (b.size = 0) := by
  rw [Bool.eq_iff_iff]; simp [size_toList]

set_option maxHeartbeats 1000000 in
theorem check_any (x : Ent) (w : World) (h : x.ok) :
    Calls Tryd.prog 12 #[x.v] w fun e w' => e = .returned (.int .i64 (chkE x)) ∧ Below w.heap.size w w' := by
  obtain ⟨k, s, d, v⟩ := x
  obtain ⟨h0, h1, h2, h3⟩ := h
  simp only at h0 h1 h2 h3
  cases d
  all_goals
    go_enter Tryd.func12, Tryd.ntmps12
    go_wp2
    all_goals
      go_ret
      refine ⟨congrArg (fun z : Int => Ending.returned (.int .i64 z)) ?_, (Below.refl _ _).alloc (Nat.le_refl _) _⟩
      go_light
      simp only [size_empty, isEmpty_size] at *
      simp only [chkE]
      symm
      first
        | exact if_pos (by simp_all <;> omega)
        | exact (if_neg (by simp_all <;> omega)).trans (if_pos (by simp_all <;> omega))
        | exact (if_neg (by simp_all <;> omega)).trans (if_neg (by simp_all <;> omega))

set_option maxHeartbeats 1000000 in
theorem cmp_any (x y : Ent) (w : World) (hx : x.ok) (hy : y.ok) :
    Calls Tryd.prog 13 #[x.v, y.v] w fun e w' => e = .returned (.int .i64 (cmpE x y)) ∧ Below w.heap.size w w' := by
  obtain ⟨k, s, d, v⟩ := x
  obtain ⟨k', s', d', v'⟩ := y
  obtain ⟨h0, h1, h2, h3⟩ := hx
  obtain ⟨g0, g1, g2, g3⟩ := hy
  simp only at h0 h1 h2 h3 g0 g1 g2 g3
  have hb : ∀ z : Int, z = cmpE ⟨k, s, d, v⟩ ⟨k', s', d', v'⟩ → Ending.returned (.int .i64 z) = .returned (.int .i64 (cmpE ⟨k, s, d, v⟩ ⟨k', s', d', v'⟩)) := fun z e => by rw [e]
  have Hb := Lib.hid hb
  clear hb
  have hcon := fun w => Tryd.strings_Compare k k' w
  obtain ⟨c, hc⟩ : ∃ c, c = cmpK k k' := ⟨_, rfl⟩
  have hcon' : ∀ w, Calls Tryd.prog 25 #[.string k, .string k'] w fun e w' => e = .returned (.int .i64 c) ∧ w = w' := fun w => (hcon w).mono fun e w' h => ⟨by rw [hc]; exact h.1, h.2.symm⟩
  have Hc := Lib.hid hc
  have Hcon := Lib.hid hcon'
  clear hc hcon hcon'
  by_cases hz : c = 0
  · subst hz
    go_enter Tryd.func13, Tryd.ntmps13
    go_wp2_with (go_at_call 25; (with_reducible refine (Hcon.out _).mono ?_); rintro e w' ⟨rfl, rfl⟩)
    all_goals
      go_ret
      refine ⟨Hb.out _ ?_, ((Below.refl _ _).alloc (Nat.le_refl _) _).alloc (by simp) _⟩
      simp only [cmpE, ← Hc.out]
      first
        | rw [if_neg (by simp), if_pos (by omega)]
        | rw [if_neg (by simp), if_neg (by omega), if_pos (by omega)]
        | rw [if_neg (by simp), if_neg (by omega), if_neg (by omega)]
  · have hz' : (c == 0) = false := by simp [hz]
    have hz'' : (c != 0) = true := by simp [hz]
    go_enter Tryd.func13, Tryd.ntmps13
    go_wp2_with (go_at_call 25; (with_reducible refine (Hcon.out _).mono ?_); rintro e w' ⟨rfl, rfl⟩)
    go_ret
    exact ⟨Hb.out _ (by simp [cmpE, ← Hc.out, hz]), ((Below.refl _ _).alloc (Nat.le_refl _) _).alloc (by simp) _⟩
end Go.Proofs.YtnmpiobgdnfmjaaDoor
