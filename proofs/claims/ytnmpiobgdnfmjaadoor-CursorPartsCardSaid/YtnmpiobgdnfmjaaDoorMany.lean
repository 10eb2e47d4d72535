/- A cursor through several cursors over lists: Many, first, Peek, Next. -/
import Derived.Test.YtnmpiobgdnfmjaaDoorList
import Derived.Deep.MidRow
import Derived.RegionTactic
import Derived.Deep.RegionHeld
namespace Go.Proofs.YtnmpiobgdnfmjaaDoor
open Go Go.RowKit

def ptrC (b : Nat) : Value := .pointer (some ⟨b, 0, none⟩)
/-- cursors: the first n of cb, over what is left, rem; arrays in gb -/
structure CursL (w : World) (n : Nat) (cb gb : Nat → Nat) (rem : Nat → List Ent) : Prop where
  cur : ∀ i, i < n → CurL w (cb i) (gb i) (rem i)
  inj : ∀ i j, i < n → j < n → i ≠ j → cb i ≠ cb j
  ap : ∀ i j, i < n → j < n → gb i ≠ cb j
theorem CursL.below {w w' : World} {n : Nat} {cb gb : Nat → Nat} {rem : Nat → List Ent} (h : CursL w n cb gb rem) (hb : Below w.heap.size w w') : CursL w' n cb gb rem :=
  ⟨fun i hi => (h.cur i hi).below hb, h.inj, h.ap⟩
/-- the cursor through them -/
structure ManyA (w : World) (m b o cp n : Nat) (cb : Nat → Nat) : Prop where
  blk : Blk w m 47 (curCs 3 (.slice none 0 0) (.pointer none) 0 (.slice (some ⟨b, o, none⟩) n cp) 0)
  cap : n ≤ cp
  len : cp ≤ 9223372036854775807
  lt : b < w.heap.size
  sl : ∀ i, i < n → w.cell? ⟨b, o + i, none⟩ = some (ptrC (cb i))
  ne : b ≠ m
theorem ManyA.below {w w' : World} {m b o cp n : Nat} {cb : Nat → Nat} (h : ManyA w m b o cp n cb) (hb : Below w.heap.size w w') : ManyA w' m b o cp n cb :=
  ⟨h.blk.below hb h.blk.lt, h.cap, h.len, Nat.lt_of_lt_of_le h.lt hb.size, fun i hi => (hb.cell (p := ⟨b, o + i, none⟩) h.lt).trans (h.sl i hi), h.ne⟩
theorem ManyA.chg {S : Nat → Prop} {w w' : World} {m b o cp n : Nat} {cb : Nat → Nat} (h : ManyA w m b o cp n cb) (hb : Chg S w w') (h1 : ¬ S m) (h2 : ¬ S b) : ManyA w' m b o cp n cb :=
  ⟨h.blk.chg hb h1, h.cap, h.len, Nat.lt_of_lt_of_le h.lt hb.size, fun i hi => (hb.cell (p := ⟨b, o + i, none⟩) h.lt h2).trans (h.sl i hi), h.ne⟩

/-- which of n lists has the least head: the first of these -/
def bestOf (rem : Nat → List Ent) : Nat → Int × Ent
  | 0 => (-1, zeroE)
  | k + 1 => match rem k with
    | [] => bestOf rem k
    | x :: _ => if (bestOf rem k).1 < 0 ∨ cmpE x (bestOf rem k).2 < 0 then (k, x) else bestOf rem k
theorem bestOf_bd (rem : Nat → List Ent) : ∀ k, -1 ≤ (bestOf rem k).1 ∧ (bestOf rem k).1 < k ∨ (k = 0 ∧ (bestOf rem k).1 = -1) := by
  intro k
  induction k with
  | zero => exact .inr ⟨rfl, rfl⟩
  | succ k ih =>
    left
    have h0 : -1 ≤ (bestOf rem k).1 ∧ (bestOf rem k).1 < ↑(k + 1) := by rcases ih with h | ⟨h1, h2⟩ <;> omega
    unfold bestOf
    split
    · exact h0
    · split
      · exact ⟨by simp only; omega, by simp only; omega⟩
      · exact h0

def FirstPost (rem : Nat → List Ent) (n : Nat) (w : World) (e : Ending) (w' : World) : Prop := e = .returned (.tuple #[.int .i64 (bestOf rem n).1, (bestOf rem n).2.v, .int .i64 0]) ∧ Below w.heap.size w w'

theorem bestOf_nil {rem : Nat → List Ent} {k : Nat} (h : rem k = []) : bestOf rem (k + 1) = bestOf rem k := by
  conv => lhs; unfold bestOf
  rw [h]
theorem bestOf_take {rem : Nat → List Ent} {k : Nat} {x : Ent} {r : List Ent} (h : rem k = x :: r) (hc : (bestOf rem k).1 < 0 ∨ cmpE x (bestOf rem k).2 < 0) : bestOf rem (k + 1) = (↑k, x) := by
  conv => lhs; unfold bestOf
  rw [h]
  exact if_pos hc
theorem bestOf_keep {rem : Nat → List Ent} {k : Nat} {x : Ent} {r : List Ent} (h : rem k = x :: r) (hc : ¬ ((bestOf rem k).1 < 0 ∨ cmpE x (bestOf rem k).2 < 0)) : bestOf rem (k + 1) = bestOf rem k := by
  conv => lhs; unfold bestOf
  rw [h]
  exact if_neg hc
theorem zeroE_ok : zeroE.ok := ⟨by decide, by decide, by decide, by decide⟩
theorem bestOf_ok {rem : Nat → List Ent} {n : Nat} (hok : ∀ i x, i < n → x ∈ rem i → x.ok) : ∀ k, k ≤ n → (bestOf rem k).2.ok := by
  intro k
  induction k with
  | zero => intro _; exact zeroE_ok
  | succ k ih =>
    intro hk
    have h0 := ih (by omega)
    cases hr : rem k with
    | nil => rw [bestOf_nil hr]; exact h0
    | cons x r =>
      by_cases hc : (bestOf rem k).1 < 0 ∨ cmpE x (bestOf rem k).2 < 0
      · rw [bestOf_take hr hc]; exact hok k x (by omega) (by rw [hr]; simp)
      · rw [bestOf_keep hr hc]; exact h0

set_option maxHeartbeats 4000000 in
theorem first_any (w : World) (m b o cp n : Nat) (cb gb : Nat → Nat) (rem : Nat → List Ent) (h : ManyA w m b o cp n cb) (hC : CursL w n cb gb rem) (hok : ∀ i x, i < n → x ∈ rem i → x.ok) (hn : n ≤ 10000) :
    Calls Tryd.prog 17 #[.pointer (some ⟨m, 0, none⟩)] w (FirstPost rem n w) := by
  obtain ⟨k0, k1, k2, k3, k4, k5, fk⟩ := h.blk.six
  have hm := h.blk.lt
  have hcap := h.cap
  have hlen := h.len
  have hcap' : (n : Int) ≤ cp := by omega
  go_enter Tryd.func17, Tryd.ntmps17
  go_wp2_with fail
  go_loopw [5, 17] (fun t i wr => ∃ k : Nat, k ≤ n ∧ i = .int .i64 k ∧ t = .int .i64 (bestOf rem k).1 ∧ Below w.heap.size w wr ∧ Blk wr w.heap.size 30 zeroE.cs ∧ Blk wr (w.heap.size + 1) 30 (bestOf rem k).2.cs) (fun _ i _ => n - (intOf i).toNat)
  case atStart =>
    refine ⟨0, Nat.zero_le _, rfl, rfl, ((Below.refl _ _).alloc (Nat.le_refl _) _).alloc (by simp) _, (Blk.new w zeroE.cs.toArray _).alloc _, ?_⟩
    have := Blk.new (w.alloc zeroE.obj) zeroE.cs.toArray 30
    rw [show (w.alloc zeroE.obj).heap.size = w.heap.size + 1 by simp] at this
    exact this
  case round =>
    obtain ⟨k, hk, rfl, rfl, hb, z1, z2⟩ := hrel
    have hwr := hb.size
    have hz1 := z1.lt
    have hz2 := z2.lt
    by_cases hkn : k < n
    · have hkn' : (k : Int) < n := by omega
      have hk0 : (0 : Int) ≤ k := by omega
      have hptr : wr.cell? ⟨b, o + k, none⟩ = some (.pointer (some ⟨cb k, 0, none⟩)) := (hb.cell (p := ⟨b, o + k, none⟩) h.lt).trans (h.sl k hkn)
      obtain ⟨t, ht⟩ : ∃ t, t = (bestOf rem k).1 := ⟨_, rfl⟩
      obtain ⟨y, hy⟩ : ∃ y, y = (bestOf rem k).2 := ⟨_, rfl⟩
      have hyok : y.ok := by rw [hy]; exact bestOf_ok hok k hk
      rw [← ht]
      rw [← hy] at z2
      have Ht := Lib.hid ht
      have Hy := Lib.hid hy
      clear ht hy
      have hCk := (hC.below hb).cur k hkn
      cases hrk : rem k with
      | nil =>
        rw [hrk] at hCk
        have Hrk := Lib.hid hrk
        clear hrk
        go_wp2_with fail
        refine (peek_list _ (cb k) (gb k) [] hCk).mono ?_
        rintro e w1 ⟨rfl, hb1⟩
        go_wp2
        go_roundw
        case rel => exact ⟨k + 1, by omega, by go_num, by rw [bestOf_nil Hrk.out, Ht.out], hb.trans (hb1.mono hwr) |>.alloc (by have := hb1.size; omega) _, (z1.below hb1 hz1).alloc _, by rw [bestOf_nil Hrk.out, ← Hy.out]; exact (z2.below hb1 hz2).alloc _⟩
        case measure => simp [intOf]; omega
      | cons x r =>
        rw [hrk] at hCk
        have Hrk := Lib.hid hrk
        clear hrk
        have hxok : x.ok := hok k x hkn (by rw [Hrk.out]; simp)
        have hpos : decide (0 < (x :: r).length) = true := by simp
        go_wp2_with fail
        refine (peek_list _ (cb k) (gb k) (x :: r) hCk).mono ?_
        rintro e w1 ⟨rfl, hb1⟩
        have y2 := z2.below hb1 hz2
        have hs1 := hb1.size
        obtain ⟨q0, q1, q2, q3, fq⟩ := y2.four
        have hs2 : w.heap.size + 1 < w1.heap.size := by omega
        have hbw1 : Below w.heap.size w (w1.alloc x.obj) := (hb.trans (hb1.mono hwr)).alloc (by omega) _
        by_cases hneg : t < 0
        · go_wp2
          go_region
          go_wp2
          go_roundw
          case rel =>
            have hne : w.heap.size + 1 ≠ w.heap.size := by omega
            refine ⟨k + 1, by omega, by go_num, by rw [bestOf_take Hrk.out (.inl (by rw [← Ht.out]; exact hneg))], ?_, ?_, ?_⟩
            · exact ((below_set (below_set (below_set (below_set (hb.trans (hb1.mono hwr)) (by omega) _ _) (by omega) _ _) (by omega) _ _) (by omega) _ _).alloc (by simp [World.setCell]; omega) _).drew
            · exact ((((((z1.below hb1 hz1).other hne _).other hne _).other hne _).other hne _).alloc _).drew
            · rw [bestOf_take Hrk.out (.inl (by rw [← Ht.out]; exact hneg))]
              exact (((((y2.set 0 _).set 1 _).set 2 _).set 3 _).alloc _).drew
          case measure => simp [intOf]; omega
        · have hneg' : decide (t < 0) = false := decide_eq_false hneg
          go_wp2_with fail
          refine (cmp_any x y _ hxok hyok).mono ?_
          rintro e w2 ⟨rfl, hb2⟩
          have hs3 := hb2.size
          have hs4 : w1.heap.size < w2.heap.size := by simp at hs3; omega
          have y3 := (y2.alloc x.obj).below hb2 (by simp; omega)
          obtain ⟨p0, p1, p2, p3, fp⟩ := y3.four
          have x3 := (Blk.new w1 x.cs.toArray 30).below hb2 (by simp)
          obtain ⟨s0, s1, s2, s3, fs⟩ := x3.four
          have z3 := ((z1.below hb1 hz1).alloc x.obj).below hb2 (by simp; omega)
          have hbw2 : Below w.heap.size w w2 := hbw1.trans (hb2.mono (by simp; omega))
          clear q0 q1 q2 q3 fq
          obtain ⟨c, hc⟩ : ∃ c, c = cmpE x y := ⟨_, rfl⟩
          rw [← hc]
          have Hc := Lib.hid hc
          clear hc
          by_cases hlt : c < 0
          · go_wp2
            go_region
            go_wp2
            go_roundw
            case rel =>
              have hne : w.heap.size + 1 ≠ w.heap.size := by omega
              have htake := bestOf_take (rem := rem) (k := k) Hrk.out (.inr (by rw [← Hy.out, ← Hc.out]; exact hlt))
              refine ⟨k + 1, by omega, by go_num, by rw [htake], ?_, ?_, ?_⟩
              · exact (below_set (below_set (below_set (below_set hbw2 (by omega) _ _) (by omega) _ _) (by omega) _ _) (by omega) _ _).drew
              · exact ((((z3.other hne _).other hne _).other hne _).other hne _).drew
              · rw [htake]
                exact ((((y3.set 0 _).set 1 _).set 2 _).set 3 _).drew
            case measure => simp [intOf]; omega
          · have hlt' : decide (c < 0) = false := decide_eq_false hlt
            go_wp2
            go_roundw
            case rel =>
              have hkeep := bestOf_keep (rem := rem) (k := k) Hrk.out (by rw [← Ht.out, ← Hy.out, ← Hc.out]; rintro (h | h) <;> omega)
              exact ⟨k + 1, by omega, by go_num, by rw [hkeep, ← Ht.out], hbw2, z3, by rw [hkeep, ← Hy.out]; exact y3⟩
            case measure => simp [intOf]; omega
    · obtain rfl : k = n := by omega
      have hkn' : ¬ (k : Int) < k := by omega
      obtain ⟨t, ht⟩ : ∃ t, t = (bestOf rem k).1 := ⟨_, rfl⟩
      obtain ⟨y, hy⟩ : ∃ y, y = (bestOf rem k).2 := ⟨_, rfl⟩
      rw [← ht]
      rw [← hy] at z2
      have hpost : ∀ w' e, e = .returned (.tuple #[.int .i64 t, y.v, .int .i64 0]) → Below w.heap.size w w' → FirstPost rem k w e w' := fun w' e h1 h2 => ⟨by rw [h1, ht, hy], h2⟩
      have Hpost := Lib.hid hpost
      clear ht hy hpost
      obtain ⟨q0, q1, q2, q3, fq⟩ := z2.four
      obtain ⟨s0, s1, s2, s3, fs⟩ := z1.four
      go_wp2
      go_region
      go_wp2
      refine bodyPost_ret (v := .tuple #[.int .i64 t, y.v, .int .i64 0]) (by simp [results, Tryd.results17, go_sem, s0, s1, s2, s3]) rfl (Hpost.out _ _ rfl ?_)
      exact (below_set (below_set (below_set (below_set hb (Nat.le_refl _) _ _) (Nat.le_refl _) _ _) (Nat.le_refl _) _ _) (Nat.le_refl _) _ _).drew

def PeekPost (rem : Nat → List Ent) (n : Nat) (w : World) (e : Ending) (w' : World) : Prop := e = .returned (.tuple #[(bestOf rem n).2.v, .bool (decide (0 ≤ (bestOf rem n).1)), .int .i64 0]) ∧ Below w.heap.size w w'

set_option maxHeartbeats 2000000 in
theorem peek_many (w : World) (m b o cp n : Nat) (cb gb : Nat → Nat) (rem : Nat → List Ent) (h : ManyA w m b o cp n cb) (hC : CursL w n cb gb rem) (hok : ∀ i x, i < n → x ∈ rem i → x.ok) (hn : n ≤ 10000) :
    Calls Tryd.prog 16 #[.pointer (some ⟨m, 0, none⟩)] w (PeekPost rem n w) := by
  obtain ⟨k0, k1, k2, k3, k4, k5, fk⟩ := h.blk.six
  have hm := h.blk.lt
  obtain ⟨t, ht⟩ : ∃ t, t = (bestOf rem n).1 := ⟨_, rfl⟩
  obtain ⟨y, hy⟩ : ∃ y, y = (bestOf rem n).2 := ⟨_, rfl⟩
  have hpost : ∀ w' e, e = .returned (.tuple #[y.v, .bool (decide (0 ≤ t)), .int .i64 0]) → Below w.heap.size w w' → PeekPost rem n w e w' := fun w' e h1 h2 => ⟨by rw [h1, ht, hy], h2⟩
  have hb0 : Below w.heap.size w (w.alloc zeroE.obj) := (Below.refl _ _).alloc (Nat.le_refl _) _
  have hfirst : Calls Tryd.prog 17 #[.pointer (some ⟨m, 0, none⟩)] (w.alloc zeroE.obj) fun e w' => e = .returned (.tuple #[.int .i64 t, y.v, .int .i64 0]) ∧ Below (w.heap.size + 1) (w.alloc zeroE.obj) w' :=
    (first_any _ m b o cp n cb gb rem (h.below hb0) (hC.below hb0) hok hn).mono fun e w' hp => ⟨by rw [hp.1, ht, hy], by simpa using hp.2⟩
  have Hpost := Lib.hid hpost
  have Hfirst := Lib.hid hfirst
  clear ht hy hpost hfirst
  go_enter Tryd.func16, Tryd.ntmps16
  go_wp2_with fail
  refine Hfirst.out.mono ?_
  rintro e w1 ⟨rfl, hb1⟩
  have hz := hb1.size
  have hz1 : w.heap.size < w1.heap.size := by simp at hz; omega
  obtain ⟨z0, z1, z2, z3, fz⟩ := ((Blk.new w zeroE.cs.toArray 30).below hb1 (by omega)).four
  go_wp2
  refine bodyPost_ret (v := .tuple #[y.v, .bool (decide (0 ≤ t)), .int .i64 0]) (by simp [results, Tryd.results16, go_sem, hz1, z0, z1, z2, z3]) rfl (Hpost.out _ _ rfl ?_)
  refine Below.alloc (below_set (below_set (below_set (below_set (hb0.trans (hb1.mono (by omega))) (Nat.le_refl _) _ _) (Nat.le_refl _) _ _) (Nat.le_refl _) _ _) (Nat.le_refl _) _ _) ?_ _
  simp [World.setCell]; omega

/-- nothing is left -/
theorem next_many_none (w : World) (m b o cp n : Nat) (cb gb : Nat → Nat) (rem : Nat → List Ent) (h : ManyA w m b o cp n cb) (hC : CursL w n cb gb rem) (hok : ∀ i x, i < n → x ∈ rem i → x.ok) (hn : n ≤ 10000) (hbest : bestOf rem n = (-1, zeroE)) :
    Calls Tryd.prog 9 #[.pointer (some ⟨m, 0, none⟩)] w fun e w' => e = .returned (.tuple #[zeroE.v, .bool false, .int .i64 0]) ∧ Below w.heap.size w w' := by
  have hb : Below w.heap.size w (w.alloc zeroE.obj) := (Below.refl _ _).alloc (Nat.le_refl _) _
  have hpeek : Calls Tryd.prog 16 #[.pointer (some ⟨m, 0, none⟩)] (w.alloc zeroE.obj) fun e w' => e = .returned (.tuple #[zeroE.v, .bool false, .int .i64 0]) ∧ Below (w.heap.size + 1) (w.alloc zeroE.obj) w' :=
    (peek_many _ m b o cp n cb gb rem (h.below hb) (hC.below hb) hok hn).mono fun e w' hp => ⟨by rw [hp.1, hbest]; rfl, by simpa using hp.2⟩
  have Hpeek := Lib.hid hpeek
  clear hpeek
  go_enter Tryd.func9, Tryd.ntmps9
  go_wp2_with fail
  refine Hpeek.out.mono ?_
  rintro e w1 ⟨rfl, hb1⟩
  have hz : w.heap.size < w1.heap.size := by have := hb1.size; simp at this; omega
  obtain ⟨z0, z1, z2, z3, fz⟩ := ((Blk.new w zeroE.cs.toArray 30).below hb1 (by omega)).four
  go_wp2
  refine bodyPost_ret (v := .tuple #[zeroE.v, .bool false, .int .i64 0]) (by simp [results, Tryd.results9, go_sem, hz, z0, z1, z2, z3]) rfl ⟨rfl, ?_⟩
  refine Below.alloc (below_set (below_set (below_set (below_set (hb.trans (hb1.mono (by omega))) (Nat.le_refl _) _ _) (Nat.le_refl _) _ _) (Nat.le_refl _) _ _) (Nat.le_refl _) _ _) ?_ _
  simp [World.setCell]; omega

/-- the list i goes on by one -/
def remTail (rem : Nat → List Ent) (i : Nat) (r : List Ent) : Nat → List Ent := fun j => if j = i then r else rem j
theorem CursL.step {w w' : World} {n : Nat} {cb gb : Nat → Nat} {rem : Nat → List Ent} {i : Nat} {r : List Ent} (h : CursL w n cb gb rem) (hi : i < n) (hc : CurL w' (cb i) (gb i) r) (hchg : Chg (fun k => k = cb i) w w') : CursL w' n cb gb (remTail rem i r) := by
  refine ⟨fun j hj => ?_, h.inj, h.ap⟩
  unfold remTail
  by_cases e : j = i
  · subst e; rw [if_pos rfl]; exact hc
  · rw [if_neg e]; exact (h.cur j hj).chg hchg (h.inj j i hj hi e) (fun _ => h.ap j i hj hi)

def NextPost (x : Ent) (n : Nat) (cb gb : Nat → Nat) (rem : Nat → List Ent) (i : Nat) (r : List Ent) (w : World) (e : Ending) (w' : World) : Prop :=
  e = .returned (.tuple #[x.v, .bool true, .int .i64 0]) ∧ CursL w' n cb gb (remTail rem i r) ∧ Chg (fun k => k = cb i) w w'

set_option maxHeartbeats 4000000 in
theorem next_many_some (w : World) (m b o cp n : Nat) (cb gb : Nat → Nat) (rem : Nat → List Ent) (h : ManyA w m b o cp n cb) (hC : CursL w n cb gb rem) (hok : ∀ i x, i < n → x ∈ rem i → x.ok) (hn : n ≤ 10000)
   (i : Nat) (x : Ent) (r : List Ent) (hi : i < n) (hbest : bestOf rem n = (↑i, x)) (hr : rem i = x :: r) :
    Calls Tryd.prog 9 #[.pointer (some ⟨m, 0, none⟩)] w (NextPost x n cb gb rem i r w) := by
  obtain ⟨k0, k1, k2, k3, k4, k5, fk⟩ := h.blk.six
  have hm := h.blk.lt
  have hcap := h.cap
  have hlen := h.len
  have hcap' : (n : Int) ≤ cp := by omega
  have hi' : (i : Int) < n := by omega
  have hi0 : (0 : Int) ≤ i := by omega
  have hb : Below w.heap.size w (w.alloc zeroE.obj) := (Below.refl _ _).alloc (Nat.le_refl _) _
  have hpeek : Calls Tryd.prog 16 #[.pointer (some ⟨m, 0, none⟩)] (w.alloc zeroE.obj) fun e w' => e = .returned (.tuple #[x.v, .bool true, .int .i64 0]) ∧ Below (w.heap.size + 1) (w.alloc zeroE.obj) w' :=
    (peek_many _ m b o cp n cb gb rem (h.below hb) (hC.below hb) hok hn).mono fun e w' hp => ⟨by rw [hp.1, hbest]; simp only; rw [decide_eq_true hi0], by simpa using hp.2⟩
  have hfirst : ∀ W, Below w.heap.size w W → Calls Tryd.prog 17 #[.pointer (some ⟨m, 0, none⟩)] W fun e w' => e = .returned (.tuple #[.int .i64 i, x.v, .int .i64 0]) ∧ Below W.heap.size W w' := fun W hW =>
    (first_any W m b o cp n cb gb rem (h.below hW) (hC.below hW) hok hn).mono fun e w' hp => ⟨by rw [hp.1, hbest], hp.2⟩
  have hnext : ∀ W, Below w.heap.size w W → Calls Tryd.prog 9 #[.pointer (some ⟨cb i, 0, none⟩)] W fun e w' => e = .returned (.tuple #[x.v, .bool true, .int .i64 0]) ∧ CurL w' (cb i) (gb i) r ∧ Chg (fun k => k = cb i) W w' := fun W hW =>
    next_cons W (cb i) (gb i) x r (by have := (hC.below hW).cur i hi; rw [hr] at this; exact this)
  have hgi : gb i < w.heap.size := by have := hC.cur i hi; rw [hr] at this; exact this.glt
  have hptr : w.cell? ⟨b, o + i, none⟩ = some (.pointer (some ⟨cb i, 0, none⟩)) := h.sl i hi
  have hcb : cb i < w.heap.size := (hC.cur i hi).lt
  have Hpeek := Lib.hid hpeek
  have Hfirst := Lib.hid hfirst
  have Hnext := Lib.hid hnext
  have hbl := h.lt
  clear hpeek hfirst hnext hbest hr
  go_enter Tryd.func9, Tryd.ntmps9
  go_wp2_with fail
  refine Hpeek.out.mono ?_
  rintro e w1 ⟨rfl, hb1⟩
  have hz : w.heap.size < w1.heap.size := by have := hb1.size; simp at this; omega
  have zB := (Blk.new w zeroE.cs.toArray 30).below hb1 (by omega)
  have hbb : Below w.heap.size w w1 := hb.trans (hb1.mono (by omega))
  have hm1 : m < w1.heap.size := by omega
  have e0 : w1.cell? ⟨m, 0, none⟩ = some (.int .i64 3) := (hbb.cell (p := ⟨m, 0, none⟩) hm).trans k0
  go_wp2_with fail
  refine (Hfirst.out _ (hbb.alloc (by omega) _)).mono ?_
  rintro e w2 ⟨rfl, hb2⟩
  have hz2 : w1.heap.size < w2.heap.size := by have := hb2.size; simp at this; omega
  have hbb2 : Below w.heap.size w w2 := (hbb.alloc (by omega) _).trans (hb2.mono (by simp; omega))
  have e4 : w2.cell? ⟨m, 4, none⟩ = some (.slice (some ⟨b, o, none⟩) n cp) := (hbb2.cell (p := ⟨m, 4, none⟩) hm).trans k4
  have ei : w2.cell? ⟨b, o + i, none⟩ = some (.pointer (some ⟨cb i, 0, none⟩)) := (hbb2.cell (p := ⟨b, o + i, none⟩) hbl).trans hptr
  have hm2 : m < w2.heap.size := by omega
  have hb2' : b < w2.heap.size := by omega
  have zB2 := (zB.alloc x.obj).below hb2 (by simp; omega)
  clear e0
  go_wp2_with fail
  refine (Hnext.out _ (hbb2.alloc (by omega) _)).mono ?_
  rintro e w3 ⟨rfl, hc3, hch3⟩
  have hsz : (w2.alloc x.obj).heap.size ≤ w3.heap.size := hch3.size
  have hz3 : w.heap.size < w3.heap.size := by simp at hsz; omega
  obtain ⟨z0, z1, z2, z3, fz⟩ := ((zB2.alloc x.obj).chg hch3 (by show w.heap.size ≠ cb i; omega)).four
  go_wp2
  refine bodyPost_ret (v := .tuple #[x.v, .bool true, .int .i64 0]) (by simp [results, Tryd.results9, go_sem, z0, z1, z2, z3]) rfl ⟨rfl, ?_, ?_⟩
  · have hs : ∀ o', w.heap.size < w3.heap.size → (fun k => k = w.heap.size) (⟨w.heap.size, o', none⟩ : Addr).block := fun _ _ => rfl
    have h3 : Chg (fun k => k = w.heap.size) w3 ((((w3.setCell ⟨w.heap.size, 0, none⟩ (.string x.key)).setCell ⟨w.heap.size, 1, none⟩ (.int .u64 x.seq)).setCell ⟨w.heap.size, 2, none⟩ (.bool x.del)).setCell ⟨w.heap.size, 3, none⟩ (.string x.val)) :=
      ((((Chg.refl _ _).setCell _ (hs 0) _).setCell _ (hs 1) _).setCell _ (hs 2) _).setCell _ (hs 3) _
    have h4 := hc3.chg h3 (by show cb i ≠ w.heap.size; omega) (fun _ => by show gb i ≠ w.heap.size; omega)
    refine hC.step hi h4 ?_
    exact (((((Chg.ofBelow (hbb2.alloc (by omega) _)).trans' hch3).setCell _ (fun hh => absurd hh (Nat.lt_irrefl _)) _).setCell _ (fun hh => absurd hh (Nat.lt_irrefl _)) _).setCell _ (fun hh => absurd hh (Nat.lt_irrefl _)) _).setCell _ (fun hh => absurd hh (Nat.lt_irrefl _)) _
  · exact (((((Chg.ofBelow (hbb2.alloc (by omega) _)).trans' hch3).setCell _ (fun hh => absurd hh (Nat.lt_irrefl _)) _).setCell _ (fun hh => absurd hh (Nat.lt_irrefl _)) _).setCell _ (fun hh => absurd hh (Nat.lt_irrefl _)) _).setCell _ (fun hh => absurd hh (Nat.lt_irrefl _)) _
end Go.Proofs.YtnmpiobgdnfmjaaDoor
