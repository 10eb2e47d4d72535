/- The plain law of CursorParts: parts of a list in order, the least head taken each time, give the list. -/
import Derived.Test.YtnmpiobgdnfmjaaDoorOrd
namespace Go.Proofs.YtnmpiobgdnfmjaaDoor
open Go Go.RowKit

theorem cb_cases : ∀ a b : List UInt8, Lib.compareBytes a b = -1 ∨ Lib.compareBytes a b = 0 ∨ Lib.compareBytes a b = 1
  | [], [] => by simp [Lib.compareBytes]
  | [], _ :: _ => by simp [Lib.compareBytes]
  | _ :: _, [] => by simp [Lib.compareBytes]
  | a :: r, b :: s => by
    unfold Lib.compareBytes
    split
    · simp
    · split
      · simp
      · exact cb_cases r s
theorem cb_symm : ∀ a b : List UInt8, Lib.compareBytes b a = - Lib.compareBytes a b
  | [], [] => by simp [Lib.compareBytes]
  | [], _ :: _ => by simp [Lib.compareBytes]
  | _ :: _, [] => by simp [Lib.compareBytes]
  | a :: r, b :: s => by
    unfold Lib.compareBytes
    by_cases h1 : a < b
    · have h2 : ¬ b < a := by simp only [UInt8.lt_iff_toNat_lt] at *; omega
      simp [h1, h2]
    · by_cases h2 : b < a
      · simp [h1, h2]
      · simp [h1, h2, cb_symm r s]
theorem cb_trans : ∀ a b c : List UInt8, Lib.compareBytes a b < 0 → Lib.compareBytes b c < 0 → Lib.compareBytes a c < 0
  | [], [], c => by intro h; simp [Lib.compareBytes] at h
  | [], _ :: _, [] => by intro _ h; simp [Lib.compareBytes] at h
  | [], _ :: _, _ :: _ => by intro _ _; simp [Lib.compareBytes]
  | _ :: _, [], c => by intro h; simp [Lib.compareBytes] at h
  | _ :: _, _ :: _, [] => by intro _ h; simp [Lib.compareBytes] at h
  | a :: r, b :: s, c :: u => by
    unfold Lib.compareBytes
    simp only [UInt8.lt_iff_toNat_lt]
    by_cases h1 : a.toNat < b.toNat
    · by_cases h2 : b.toNat < c.toNat
      · have : a.toNat < c.toNat := by omega
        simp [h1, h2, this]
      · by_cases h3 : c.toNat < b.toNat
        · simp [h1, h2, h3]
        · have : a.toNat < c.toNat := by omega
          simp [this]
    · by_cases h4 : b.toNat < a.toNat
      · simp [h1, h4]
      · by_cases h2 : b.toNat < c.toNat
        · have : a.toNat < c.toNat := by omega
          simp [this]
        · by_cases h3 : c.toNat < b.toNat
          · simp [h1, h4, h2, h3]
          · have e1 : ¬ a.toNat < c.toNat := by omega
            have e2 : ¬ c.toNat < a.toNat := by omega
            simp only [h1, h4, h2, h3, e1, e2, if_false]
            exact cb_trans r s u
theorem cb_zero : ∀ a b : List UInt8, Lib.compareBytes a b = 0 → a = b
  | [], [] => fun _ => rfl
  | [], _ :: _ => by simp [Lib.compareBytes]
  | _ :: _, [] => by simp [Lib.compareBytes]
  | a :: r, b :: s => by
    unfold Lib.compareBytes
    simp only [UInt8.lt_iff_toNat_lt]
    by_cases h1 : a.toNat < b.toNat
    · simp [h1]
    · by_cases h2 : b.toNat < a.toNat
      · simp [h1, h2]
      · simp only [h1, h2, if_false]
        intro h
        rw [cb_zero r s h, show a = b from UInt8.toNat_inj.1 (by omega)]

theorem cmpK_symm (a b : ByteArray) : cmpK b a = - cmpK a b := cb_symm _ _
theorem cmpK_zero {a b : ByteArray} (h : cmpK a b = 0) : a = b := by
  have := cb_zero _ _ h
  obtain ⟨⟨a⟩⟩ := a
  obtain ⟨⟨b⟩⟩ := b
  exact congrArg (fun l => (⟨⟨l⟩⟩ : ByteArray)) this
theorem cmpK_self (a : ByteArray) : cmpK a a = 0 := by have := cmpK_symm a a; omega
theorem cmpE_symm (x y : Ent) : cmpE y x = - cmpE x y := by
  unfold cmpE
  have h := cmpK_symm x.key y.key
  by_cases h0 : cmpK x.key y.key = 0
  · have h0' : cmpK y.key x.key = 0 := by omega
    simp only [h0, h0', ne_eq, not_true_eq_false, if_false]
    by_cases h1 : x.seq < y.seq
    · have h2 : ¬ y.seq < x.seq := by omega
      simp [h1, h2]
    · by_cases h2 : y.seq < x.seq <;> simp [h1, h2]
  · have h0' : cmpK y.key x.key ≠ 0 := by omega
    rw [if_pos h0', if_pos h0, h]
theorem cmpE_trans {x y z : Ent} (h1 : cmpE x y < 0) (h2 : cmpE y z < 0) : cmpE x z < 0 := by
  unfold cmpE at *
  by_cases a0 : cmpK x.key y.key = 0
  · have e := cmpK_zero a0
    rw [if_neg (by omega)] at h1
    rw [e]
    by_cases b0 : cmpK y.key z.key = 0
    · rw [if_neg (by omega)] at h2 ⊢
      split at h1
      · split at h2
        · rw [if_pos (by omega)]; omega
        · split at h2 <;> omega
      · split at h1 <;> omega
    · rw [if_pos (by omega)] at h2 ⊢
      exact h2
  · rw [if_pos (by omega)] at h1
    by_cases b0 : cmpK y.key z.key = 0
    · have e := cmpK_zero b0
      rw [← e, if_pos (by omega)]
      exact h1
    · rw [if_pos (by omega)] at h2
      have := cb_trans _ _ _ h1 h2
      have h3 : cmpK x.key z.key < 0 := this
      rw [if_pos (by omega)]
      exact h3

/-- in order, no two alike -/
def Sorted (l : List Ent) : Prop := l.Pairwise fun x y => cmpE x y < 0
theorem take_while_len {α : Type} (p : α → Bool) : ∀ l : List α, l.take (l.takeWhile p).length = l.takeWhile p ∧ l.drop (l.takeWhile p).length = l.dropWhile p
  | [] => ⟨rfl, rfl⟩
  | a :: r => by
    obtain ⟨h1, h2⟩ := take_while_len p r
    by_cases hp : p a = true
    · simp [hp, h1, h2]
    · simp [hp]
theorem takeWhile_all {α : Type} (p : α → Bool) : ∀ (l : List α) (y : α), y ∈ l.takeWhile p → p y = true
  | [], y, h => by simp at h
  | a :: r, y, h => by
    by_cases hp : p a = true
    · simp [hp] at h
      rcases h with rfl | h
      · exact hp
      · exact takeWhile_all p r y h
    · simp [hp] at h
theorem dropWhile_head {α : Type} (p : α → Bool) : ∀ (l r : List α) (y : α), l.dropWhile p = y :: r → p y = false
  | [], r, y, h => by simp at h
  | a :: l, r, y, h => by
    by_cases hp : p a = true
    · simp [hp] at h
      exact dropWhile_head p l r y h
    · simp [hp] at h
      rw [← h.1]; simpa using hp
theorem insE_sorted {x : Ent} {out : List Ent} (h : Sorted out) : Sorted (insE x out) := by
  obtain ⟨e1, e2⟩ := take_while_len (fun y => decide (cmpE y x < 0)) out
  unfold insE
  by_cases hs : sameE x out[atE x out]? = true
  · rw [if_pos hs]; exact h
  · rw [if_neg hs]
    have hh : out[atE x out]? = (out.drop (atE x out)).head? := by rw [List.head?_drop]
    unfold atE at hs hh ⊢
    rw [e2] at hh ⊢
    rw [e1]
    have ht : ∀ y, y ∈ out.takeWhile (fun y => decide (cmpE y x < 0)) → cmpE y x < 0 := fun y hy => by simpa using takeWhile_all (fun y => decide (cmpE y x < 0)) out y hy
    have hso : Sorted (out.takeWhile (fun y => decide (cmpE y x < 0)) ++ out.dropWhile (fun y => decide (cmpE y x < 0))) := by rw [List.takeWhile_append_dropWhile]; exact h
    obtain ⟨s1, s2, s3⟩ := List.pairwise_append.1 hso
    have hd : ∀ y, y ∈ out.dropWhile (fun y => decide (cmpE y x < 0)) → cmpE x y < 0 := by
      cases hdr : out.dropWhile (fun y => decide (cmpE y x < 0)) with
      | nil => intro y hy; simp at hy
      | cons z r =>
        have hz : cmpE x z < 0 := by
          have h1 : ¬ cmpE z x < 0 := by simpa using dropWhile_head (fun y => decide (cmpE y x < 0)) out r z hdr
          have h2 : cmpE z x ≠ 0 := fun e => hs (by rw [hh, hdr]; exact decide_eq_true e)
          have := cmpE_symm x z
          omega
        intro y hy
        rcases List.mem_cons.1 hy with rfl | hy
        · exact hz
        · rw [hdr] at s2
          exact cmpE_trans hz ((List.pairwise_cons.1 s2).1 y hy)
    exact List.pairwise_append.2 ⟨s1, List.pairwise_cons.2 ⟨hd, s2⟩, fun a ha b hb => by
      rcases List.mem_cons.1 hb with rfl | hb
      · exact ht a ha
      · exact s3 a ha b hb⟩
theorem foldE_sorted : ∀ (es out : List Ent), Sorted out → Sorted (es.foldl ordStep out) := by
  intro es
  induction es with
  | nil => intro out h; exact h
  | cons x r ih =>
    intro out h
    refine ih _ ?_
    unfold ordStep
    split
    · exact insE_sorted h
    · exact h
theorem ordE_sorted (es : List Ent) : Sorted (ordE es) := foldE_sorted es [] List.Pairwise.nil

/-- of a list from its place k on those of class i -/
def partL (cls : Nat → Nat) (i : Nat) : Nat → List Ent → List Ent
  | _, [] => []
  | k, x :: r => if cls k = i then x :: partL cls i (k + 1) r else partL cls i (k + 1) r
theorem partL_mem {cls : Nat → Nat} {i : Nat} {y : Ent} : ∀ (l : List Ent) (k : Nat), y ∈ partL cls i k l → y ∈ l := by
  intro l
  induction l with
  | nil => intro k h; simp [partL] at h
  | cons x r ih =>
    intro k h
    unfold partL at h
    split at h
    · rcases List.mem_cons.1 h with rfl | h
      · simp
      · simp [ih _ h]
    · simp [ih _ h]
theorem partL_same {cls : Nat → Nat} {k : Nat} {x : Ent} {r : List Ent} : partL cls (cls k) k (x :: r) = x :: partL cls (cls k) (k + 1) r := by
  conv => lhs; unfold partL
  rw [if_pos rfl]
theorem partL_other {cls : Nat → Nat} {i k : Nat} {x : Ent} {r : List Ent} (h : i ≠ cls k) : partL cls i k (x :: r) = partL cls i (k + 1) r := by
  conv => lhs; unfold partL
  rw [if_neg (fun e => h e.symm)]

/-- the least head is that of the list -/
theorem bestOf_part {cls : Nat → Nat} {k : Nat} {x : Ent} {r : List Ent} (hs : Sorted (x :: r)) : ∀ n, (cls k < n → bestOf (fun i => partL cls i k (x :: r)) n = (↑(cls k), x)) ∧
    (n ≤ cls k → (bestOf (fun i => partL cls i k (x :: r)) n).1 < 0 ∨ cmpE x (bestOf (fun i => partL cls i k (x :: r)) n).2 < 0) := by
  have hx := (List.pairwise_cons.1 hs).1
  intro n
  induction n with
  | zero => exact ⟨fun h => by omega, fun _ => .inl (by show (-1 : Int) < 0; omega)⟩
  | succ n ih =>
    obtain ⟨ih1, ih2⟩ := ih
    by_cases hn : n = cls k
    · subst hn
      refine ⟨fun _ => ?_, fun h => by omega⟩
      exact bestOf_take (rem := fun i => partL cls i k (x :: r)) (k := cls k) (partL_same) (ih2 (Nat.le_refl _))
    · cases hp : (fun i => partL cls i k (x :: r)) n with
      | nil =>
        rw [bestOf_nil hp]
        exact ⟨fun h => ih1 (by omega), fun h => ih2 (by omega)⟩
      | cons y t =>
        have hy : cmpE x y < 0 := by
          refine hx y (partL_mem r (k + 1) ?_ (cls := cls) (i := n))
          have h2 : partL cls n k (x :: r) = y :: t := hp
          rw [partL_other hn] at h2
          rw [h2]; simp
        have hyx := cmpE_symm x y
        refine ⟨fun h => ?_, fun h => ?_⟩
        · have h1 := ih1 (by omega)
          rw [bestOf_keep hp (by rw [h1]; simp only; omega), h1]
        · by_cases hc : (bestOf (fun i => partL cls i k (x :: r)) n).1 < 0 ∨ cmpE y (bestOf (fun i => partL cls i k (x :: r)) n).2 < 0
          · rw [bestOf_take hp hc]; exact .inr hy
          · rw [bestOf_keep hp hc]; exact ih2 (by omega)
theorem bestOf_none {cls : Nat → Nat} {k : Nat} : ∀ n, bestOf (fun i => partL cls i k []) n = (-1, zeroE) := by
  intro n
  induction n with
  | zero => rfl
  | succ n ih => rw [bestOf_nil (rem := fun i => partL cls i k []) (k := n) rfl, ih]
theorem remTail_part {cls : Nat → Nat} {k : Nat} {x : Ent} {r : List Ent} : remTail (fun i => partL cls i k (x :: r)) (cls k) (partL cls (cls k) (k + 1) r) = fun i => partL cls i (k + 1) r := by
  funext i
  unfold remTail
  by_cases h : i = cls k
  · rw [if_pos h, h]
  · rw [if_neg h]; exact partL_other h
end Go.Proofs.YtnmpiobgdnfmjaaDoor
