/- cursor.Many; Seek and Live at a list. -/
import Derived.Test.YtnmpiobgdnfmjaaDoorMany
namespace Go.Proofs.YtnmpiobgdnfmjaaDoor
open Go Go.RowKit

def NewM (n : Nat) (cb : Nat → Nat) (w : World) (e : Ending) (w' : World) : Prop := ∃ m b o cp, e = .returned (.pointer (some ⟨m, 0, none⟩)) ∧ w.heap.size ≤ m ∧ w.heap.size ≤ b ∧ ManyA w' m b o cp n cb ∧ Below w.heap.size w w'

set_option maxHeartbeats 1000000 in
theorem many_any (w : World) (ad : Addr) (c n : Nat) (cb : Nat → Nat) (h : Sl1 w (some ad) ((List.range n).map fun i => ptrC (cb i))) (h0 : 1 ≤ n) (hn : n ≤ 10000) :
    Calls Tryd.prog 8 #[.slice (some ad) n c] w (NewM n cb w) := by
  obtain ⟨vs, hvs⟩ : ∃ vs, vs = (List.range n).map fun i => ptrC (cb i) := ⟨_, rfl⟩
  have hl : vs.length = n := by rw [hvs]; simp
  have hcl := cloneC_any w ad c vs (by rw [hvs]; exact h) (fun u hu => by rw [hvs] at hu; obtain ⟨i, _, rfl⟩ := List.mem_map.1 hu; rfl) (by omega)
  rw [hl] at hcl
  have Hcl := Lib.hid hcl
  have Hl := Lib.hid hl
  have Hvs := Lib.hid hvs
  clear hcl hl hvs
  go_enter Tryd.func8, Tryd.ntmps8
  go_wp2_with fail
  refine Hcl.out.mono ?_
  rintro e w1 ⟨ao', cp, rfl, h1, h2, h3, h4, hb1⟩
  rw [Hl.out] at h1 ⊢
  obtain ⟨b, o, rfl, hbl, hbc⟩ : ∃ b o, ao' = some ⟨b, o, none⟩ ∧ b < w1.heap.size ∧ ∀ i, i < n → w1.cell? ⟨b, o + i, none⟩ = some (ptrC (cb i)) := by
    have hg : ∀ i, i < n → vs[i]? = some (ptrC (cb i)) := fun i hi => by rw [Hvs.out]; simp [hi]
    obtain ⟨b, o, e1, e2, _⟩ := h3 0 _ (hg 0 (by omega))
    refine ⟨b, o, e1, e2, fun i hi => ?_⟩
    obtain ⟨b', o', e3, _, e5⟩ := h3 i _ (hg i hi)
    rw [e1] at e3
    cases e3
    exact e5
  go_wp2
  go_ret
  have hsz := hb1.size
  have hm : maxLen = 9223372036854775807 := by decide
  have hbl2 := Blk.new w1 #[.int .i64 3, .slice none 0 0, .pointer none, .int .i64 0, .slice (some ⟨b, o, none⟩) n cp, .int .i64 0] 47
  exact ⟨w1.heap.size, b, o, cp, rfl, hsz, (h4 _ rfl).1, ⟨hbl2, h1, by omega, by simp; omega, fun i hi => (((Below.refl w1.heap.size w1).alloc (Nat.le_refl _) _).cell (p := ⟨b, o + i, none⟩) hbl).trans (hbc i hi), by omega⟩, hb1.alloc hsz _⟩

/-- Seek at a list: x stands ahead of all that is there -/
theorem seek_list0 (w : World) (c g : Nat) (x : Ent) (es : List Ent) (hL : CurL w c g es) (hx : x.ok) (hok : ∀ y r, es = y :: r → y.ok ∧ ¬ cmpE y x < 0) :
    Calls Tryd.prog 18 #[.pointer (some ⟨c, 0, none⟩), x.v] w fun e w' => e = .returned (.int .i64 0) ∧ Below w.heap.size w w' := by
  obtain ⟨ao, cp, h⟩ := hL
  obtain ⟨k0, k1, k2, k3, k4, k5, fk⟩ := h.blk.six
  have hc := h.blk.lt
  have hbx : Below w.heap.size w (w.alloc x.obj) := (Below.refl _ _).alloc (Nat.le_refl _) _
  cases es with
  | nil =>
    clear hok
    go_enter Tryd.func18, Tryd.ntmps18
    go_wp2_with fail
    go_loopw [87] (fun _ wr => wr = w.alloc x.obj) (fun _ _ => 0)
    case atStart => rfl
    case round =>
      obtain rfl := hrel
      go_wp2_with fail
      go_quiet (fail)
      go_wp2
      go_ret
      exact ⟨rfl, below_drewN' hbx _⟩
  | cons y r =>
    obtain ⟨hyok, hcmp⟩ := hok y r rfl
    obtain ⟨b, o, rfl, hb, hr⟩ := h.sl 0 y rfl
    obtain ⟨n, hn⟩ : ∃ n, n = (y :: r).length := ⟨_, rfl⟩
    have hcap := h.cap
    rw [← hn] at k1 hcap
    have hn2 : (0 : Int) < n := by rw [hn]; simp
    have hnn : 0 < n := by omega
    have hn3 : decide (0 < n) = true := decide_eq_true hnn
    have hlen := h.len
    have hcap' : (n : Int) ≤ cp := by omega
    have q0 : w.cell? ⟨b, o, none⟩ = some (.string y.key) := by have := hr 0 _ rfl; simpa using this
    have q1 : w.cell? ⟨b, o + 1, none⟩ = some (.int .u64 y.seq) := by have := hr 1 _ rfl; simpa using this
    have q2 : w.cell? ⟨b, o + 2, none⟩ = some (.bool y.del) := by have := hr 2 _ rfl; simpa using this
    have q3 : w.cell? ⟨b, o + 3, none⟩ = some (.string y.val) := by have := hr 3 _ rfl; simpa using this
    obtain ⟨W, hW⟩ : ∃ W, W = w.alloc x.obj := ⟨_, rfl⟩
    rw [← hW] at hbx
    have hbox : Blk W w.heap.size 30 x.cs := by rw [hW]; exact Blk.new w x.cs.toArray _
    have hkeep : ∀ w', Below W.heap.size W w' → (Below W.heap.size W w' ∧ w'.cell? ⟨c, 1, none⟩ = some (.slice (some ⟨b, o, none⟩) n cp) ∧ w'.cell? ⟨c, 5, none⟩ = some (.int .i64 0) ∧ w'.cell? ⟨b, o, none⟩ = some (.string y.key) ∧ w'.cell? ⟨b, o + 1, none⟩ = some (.int .u64 y.seq) ∧ w'.cell? ⟨b, o + 2, none⟩ = some (.bool y.del) ∧ w'.cell? ⟨b, o + 3, none⟩ = some (.string y.val)
        ∧ w'.cell? ⟨w.heap.size, 0, none⟩ = some (.string x.key) ∧ w'.cell? ⟨w.heap.size, 1, none⟩ = some (.int .u64 x.seq) ∧ w'.cell? ⟨w.heap.size, 2, none⟩ = some (.bool x.del) ∧ w'.cell? ⟨w.heap.size, 3, none⟩ = some (.string x.val)) := fun w' h' => by
      have hh := hbx.trans (h'.mono hbx.size)
      obtain ⟨e0, e1, e2, e3, _⟩ := (hbox.below h' hbox.lt).four
      exact ⟨h', (hh.cell (p := ⟨c, 1, none⟩) hc).trans k1, (hh.cell (p := ⟨c, 5, none⟩) hc).trans k5, (hh.cell (p := ⟨b, o, none⟩) hb).trans q0, (hh.cell (p := ⟨b, o + 1, none⟩) hb).trans q1, (hh.cell (p := ⟨b, o + 2, none⟩) hb).trans q2, (hh.cell (p := ⟨b, o + 3, none⟩) hb).trans q3, e0, e1, e2, e3⟩
    obtain ⟨z, hz⟩ : ∃ z, z = cmpE y x := ⟨_, rfl⟩
    have hz0 : decide (z < 0) = false := by rw [hz]; exact decide_eq_false hcmp
    have hcall : ∀ w', (Below W.heap.size W w' ∧ w'.cell? ⟨c, 1, none⟩ = some (.slice (some ⟨b, o, none⟩) n cp) ∧ w'.cell? ⟨c, 5, none⟩ = some (.int .i64 0) ∧ w'.cell? ⟨b, o, none⟩ = some (.string y.key) ∧ w'.cell? ⟨b, o + 1, none⟩ = some (.int .u64 y.seq) ∧ w'.cell? ⟨b, o + 2, none⟩ = some (.bool y.del) ∧ w'.cell? ⟨b, o + 3, none⟩ = some (.string y.val)
        ∧ w'.cell? ⟨w.heap.size, 0, none⟩ = some (.string x.key) ∧ w'.cell? ⟨w.heap.size, 1, none⟩ = some (.int .u64 x.seq) ∧ w'.cell? ⟨w.heap.size, 2, none⟩ = some (.bool x.del) ∧ w'.cell? ⟨w.heap.size, 3, none⟩ = some (.string x.val)) → Calls Tryd.prog 13 #[y.v, x.v] w' fun e w'' => e = .returned (.int .i64 z) ∧ Below W.heap.size W w'' := fun w' h' =>
      (cmp_any y x w' hyok hx).mono fun e w'' hp => ⟨by rw [hp.1, hz], h'.1.trans (hp.2.mono h'.1.size)⟩
    have Hcall := Lib.hid hcall
    have HW := Lib.hid hW
    clear hcall hW hz hcmp hr hn q0 q1 q2 q3
    go_enter Tryd.func18, Tryd.ntmps18
    go_wp2_with fail
    go_loopw [87] (fun _ wr => wr = W) (fun _ _ => 0)
    case atStart => exact HW.out.symm
    case round =>
      obtain rfl := hrel
      go_wp2_with fail
      go_region_held (fun w' => Below wr.heap.size wr w' ∧ w'.cell? ⟨c, 1, none⟩ = some (.slice (some ⟨b, o, none⟩) n cp) ∧ w'.cell? ⟨c, 5, none⟩ = some (.int .i64 0) ∧ w'.cell? ⟨b, o, none⟩ = some (.string y.key) ∧ w'.cell? ⟨b, o + 1, none⟩ = some (.int .u64 y.seq) ∧ w'.cell? ⟨b, o + 2, none⟩ = some (.bool y.del) ∧ w'.cell? ⟨b, o + 3, none⟩ = some (.string y.val)
        ∧ w'.cell? ⟨w.heap.size, 0, none⟩ = some (.string x.key) ∧ w'.cell? ⟨w.heap.size, 1, none⟩ = some (.int .u64 x.seq) ∧ w'.cell? ⟨w.heap.size, 2, none⟩ = some (.bool x.del) ∧ w'.cell? ⟨w.heap.size, 3, none⟩ = some (.string x.val))
        ((first | exact hkeep _ ((Below.refl _ _).drew) | exact hkeep _ (by assumption)))
        ((go_at_call 13; (with_reducible refine (Hcall.out _ (by assumption)).mono ?_); rintro e w4 ⟨rfl, hb4⟩))
      have hk4 := hkeep _ (by assumption)
      obtain ⟨_, _, e5, _⟩ := hk4
      go_wp2
      go_ret
      exact ⟨rfl, hbx.trans (Below.mono (by assumption) hbx.size)⟩
end Go.Proofs.YtnmpiobgdnfmjaaDoor
