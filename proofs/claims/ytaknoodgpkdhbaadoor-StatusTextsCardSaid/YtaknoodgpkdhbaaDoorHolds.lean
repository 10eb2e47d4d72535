/- The contract of status.Proof.Holds. -/
import Derived.Test.YtaknoodgpkdhbaaDoorClimb
import Derived.Lib.QuietBelow

namespace Go.Proofs.YtaknoodgpkdhbaaDoor
open Go.RowKit Go.Sort

/-- two digests, held against each other -/
def heqB (f g : Nat → Int) : Bool := (List.range 32).all fun i => f i == g i

theorem eql_hash (f g : Nat → Int) (w : World) : (binOp .eql 25 (.agg (lst 32 (u8c f)).toArray) (.agg (lst 32 (u8c g)).toArray)).run Tryd.prog w = .ok (.bool (heqB f g)) w := by
  have h := run_equal_ints (P := Tryd.prog) (w := w) (t := 25) (e := 5) (n := 32) (k := .u8) (i := (Tryd.prog.info? 5).getD default) Tryd.underlying25 Tryd.underlying5 (by kernel_rfl) (by kernel_rfl)
    (xs := (lst 32 (u8c f)).toArray) (ys := (lst 32 (u8c g)).toArray) (f := f) (g := g) (fun j hj => by rw [List.getElem?_toArray]; exact lst_get hj) (fun j hj => by rw [List.getElem?_toArray]; exact lst_get hj)
  unfold binOp
  simp only [Sem.run_bind, h, Result.andThen_ok]
  rfl

def holdsB (p : Int) (n : Nat) (e : Bool) : Bool := decide (0 ≤ p) && ((decide (30 < n) || decide (p / 2 ^ n = 0)) && e)

set_option maxRecDepth 100000 in
set_option maxHeartbeats 1000000 in
theorem holds_any (ht p : Int) (f g fi ad : Nat → Int) (br : Nat → Nat → Int) (ao : Option Addr) (n c : Nat) (w : World) (hT : Tabs ad fi w) (hf : ∀ j, 0 ≤ f j ∧ f j ≤ 255) (hbr : ∀ i j, 0 ≤ br i j ∧ br i j ≤ 255)
   (hn : n ≤ 140737488351232) (hsl : ∀ i, i < n → ∃ b o, ao = some ⟨b, o, none⟩ ∧ b < w.heap.size ∧ Row w b (o + i * 32) 32 (u8c (br i))) :
    Calls Tryd.prog 12 #[.agg #[.int .i64 ht, .int .i64 p, .slice ao n c], agg32 f, agg32 g] w fun e w' => e = .returned (.bool (holdsB p n (heqB (upF ad fi br f p n).1 g))) ∧ Below w.heap.size w w' := by
  obtain ⟨l, hl⟩ : ∃ l, l = lst 32 (u8c f) := ⟨_, rfl⟩
  obtain ⟨m, hm⟩ : ∃ m, m = lst 32 (u8c g) := ⟨_, rfl⟩
  obtain ⟨t, htt⟩ : ∃ t, t = lst 32 (u8c (upF ad fi br f p n).1) := ⟨_, rfl⟩
  obtain ⟨eb, heb⟩ : ∃ eb, eb = heqB (upF ad fi br f p n).1 g := ⟨_, rfl⟩
  obtain ⟨W, hW⟩ : ∃ W, W = ((w.alloc (.cells #[.int .i64 ht, .int .i64 p, .slice ao n c] 38)).alloc (.cells l.toArray 25)).alloc (.cells m.toArray 25) := ⟨_, rfl⟩
  have c1 : W.cell? ⟨w.heap.size, 1, none⟩ = some (.int .i64 p) := by rw [hW]; go_simp
  have c2 : W.cell? ⟨w.heap.size, 2, none⟩ = some (.slice ao n c) := by rw [hW]; go_simp
  have hbW : Below w.heap.size w W := by rw [hW]; exact (((Below.refl _ _).alloc (Nat.le_refl _) _).alloc (by simp) _).alloc (by simp; omega) _
  have hsW : W.heap.size = w.heap.size + 3 := by rw [hW]; simp
  have r1 : Row W (w.heap.size + 1) 0 32 (u8c f) := by
    rw [hW]
    have := (Row.new (w.alloc (.cells #[.int .i64 ht, .int .i64 p, .slice ao n c] 38)) l.toArray 25 (u8c f) 32 (fun j hj => by rw [hl]; simpa using lst_get hj)).alloc (by simp) (.cells m.toArray 25)
    simpa using this
  have r2 : Row W (w.heap.size + 1 + 1) 0 32 (u8c g) := by
    rw [hW]
    have := Row.new ((w.alloc (.cells #[.int .i64 ht, .int .i64 p, .slice ao n c] 38)).alloc (.cells l.toArray 25)) m.toArray 25 (u8c g) 32 (fun j hj => by rw [hm]; simpa using lst_get hj)
    simpa using this
  have hsz : (Tryd.prog.info? 25).map (·.size) = some 32 := by kernel_rfl
  have k1 := cell_regrown c1
  have k2 := cell_regrown c2
  have hr1 : ∀ w', (∃ p : Regrown, w' = grow (redrawn W p.d) p.os) → w'.rangeAt (w.heap.size + 1) 0 l := by
    rintro w' ⟨p, rfl⟩
    rw [hl]; exact (r1.below (below_regrown W p.d p.os) (by omega)).range
  have hr2 : ∀ w', (∃ p : Regrown, w' = grow (redrawn W p.d) p.os) → w'.rangeAt (w.heap.size + 1 + 1) 0 m := by
    rintro w' ⟨p, rfl⟩
    rw [hm]; exact (r2.below (below_regrown W p.d p.os) (by omega)).range
  have hcl : ∀ d os, Calls Tryd.prog 11 #[.agg l.toArray, .int .i64 p, .slice ao n c] (grow (redrawn W d) os) fun e w'' => e = .returned (.agg t.toArray) ∧ ∃ p : Regrown, w'' = grow (redrawn W p.d) p.os := by
    intro d os
    have hb := below_regrown W d os
    refine Calls.regrown_of ?_
    rw [hl, htt]
    exact climb_any f fi ad br p ao n c _ (hT.below (hbW.trans (hb.mono (by omega))) hT.h1) hf hbr hn (fun i hi => by
      obtain ⟨b, o, h1, h2, h3⟩ := hsl i hi
      exact ⟨b, o, h1, Nat.lt_of_lt_of_le (by omega) hb.size, (h3.below hbW h2).below hb (by omega)⟩)
  have heq : ∀ W', (binOp .eql 25 (.agg t.toArray) (.agg m.toArray)).run Tryd.prog W' = .ok (.bool eb) W' := fun W' => by rw [htt, hm, heb]; exact eql_hash _ _ W'
  have hgd : ∀ (x y : Operand) (W' : World), (eqGuard .eql 25 x y (.agg t.toArray) (.agg m.toArray)).run Tryd.prog W' = .ok () W' := fun x y W' => run_eqGuard_agg W' .eql 25 x y _ _ (by kernel_rfl)
  unfold agg32
  rw [← hl, ← hm, ← heb]
  have Hl : Hid (l.length = 32) := Lib.hid (by rw [hl]; exact lst_length _ _)
  have Hm : Hid (m.length = 32) := Lib.hid (by rw [hm]; exact lst_length _ _)
  have HW := Lib.hid hW
  have Hr1 := Lib.hid hr1
  have Hr2 := Lib.hid hr2
  have Hcl := Lib.hid hcl
  clear hl hm htt heb hW hr1 hr2 hcl c1 c2 r1 r2 hsW hsz
  go_enter Tryd.func12, Tryd.ntmps12
  go_wp2
  rw [← HW.out]
  refine wp_region_quiet_below (by kernel_rfl) (by kernel_rfl) ?_
  by_cases hp : 0 ≤ p
  · by_cases h30 : 30 < n
    · have h30' : (30 : Int) < (n : Int) := by omega
      iterate 19 (go_big_quiet_step (fail))
      refine wpQuiet_load_mid rfl 25 (.tmp 4) rfl (w.heap.size + 1) 0 rfl l _ Hr1.out Tryd.underlying25 rfl (by rw [Hl.out]; kernel_rfl) ?_
      simp only [Act.put, List.setIfInBounds_toArray, List.set_cons_succ, List.set_cons_zero]
      iterate 5 (go_big_quiet_step ((exact Hcl.out _ _)))
      refine wpQuiet_load_mid rfl 25 (.tmp 5) rfl (w.heap.size + 1 + 1) 0 rfl m _ Hr2.out Tryd.underlying25 rfl (by rw [Hm.out]; kernel_rfl) ?_
      simp only [Act.put, List.setIfInBounds_toArray, List.set_cons_succ, List.set_cons_zero]
      repeat (go_big_quiet_step (fail))
      refine wpQuiet_nil ?_
      intro _ hw'
      obtain ⟨⟨dq, osq⟩, hw''⟩ := hw'
      subst hw''
      go_wp2
      go_ret
      exact ⟨by unfold holdsB; rw [decide_eq_true hp, decide_eq_true h30]; simp, hbW.trans ((below_regrown W dq osq).mono (by rw [HW.out]; simp; omega))⟩
    · have h30' : ¬ (30 : Int) < (n : Int) := by omega
      have n0 : 0 ≤ (n : Int) := by omega
      have n64 : (n : Int) < 64 := by omega
      by_cases hz : p / 2 ^ n = 0
      · have hz' : (p / 2 ^ n == 0) = true := by simp [hz]
        iterate 19 (go_big_quiet_step (fail))
        refine wpQuiet_load_mid rfl 25 (.tmp 4) rfl (w.heap.size + 1) 0 rfl l _ Hr1.out Tryd.underlying25 rfl (by rw [Hl.out]; kernel_rfl) ?_
        simp only [Act.put, List.setIfInBounds_toArray, List.set_cons_succ, List.set_cons_zero]
        iterate 5 (go_big_quiet_step ((exact Hcl.out _ _)))
        refine wpQuiet_load_mid rfl 25 (.tmp 5) rfl (w.heap.size + 1 + 1) 0 rfl m _ Hr2.out Tryd.underlying25 rfl (by rw [Hm.out]; kernel_rfl) ?_
        simp only [Act.put, List.setIfInBounds_toArray, List.set_cons_succ, List.set_cons_zero]
        repeat (go_big_quiet_step (fail))
        refine wpQuiet_nil ?_
        intro _ hw'
        obtain ⟨⟨dq, osq⟩, hw''⟩ := hw'
        subst hw''
        go_wp2
        go_ret
        exact ⟨by unfold holdsB; rw [decide_eq_true hp, decide_eq_true hz]; simp, hbW.trans ((below_regrown W dq osq).mono (by rw [HW.out]; simp; omega))⟩
      · have hz' : (p / 2 ^ n == 0) = false := by simp [hz]
        repeat (go_big_quiet_step (fail))
        refine wpQuiet_nil ?_
        intro _ hw'
        obtain ⟨⟨dq, osq⟩, hw''⟩ := hw'
        subst hw''
        go_wp2
        go_ret
        exact ⟨by unfold holdsB; rw [decide_eq_true hp, decide_eq_false hz, decide_eq_false h30]; simp, hbW.trans ((below_regrown W dq osq).mono (by rw [HW.out]; simp; omega))⟩
  · repeat (go_big_quiet_step (fail))
    refine wpQuiet_nil ?_
    intro _ hw'
    obtain ⟨⟨dq, osq⟩, hw''⟩ := hw'
    subst hw''
    go_wp2
    go_ret
    exact ⟨by unfold holdsB; rw [decide_eq_false (by omega)]; simp, hbW.trans ((below_regrown W dq osq).mono (by rw [HW.out]; simp; omega))⟩
end Go.Proofs.YtaknoodgpkdhbaaDoor
