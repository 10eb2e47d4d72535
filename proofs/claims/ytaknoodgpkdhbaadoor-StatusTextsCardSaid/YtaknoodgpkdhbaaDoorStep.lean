/- The contract of sha.step: 64 bytes taken into a state; what it computes, as plain functions. -/
import Derived.Test.YtaknoodgpkdhbaaDoorTurn
import Derived.Test.YtaknoodgpkdhbaaDoorQt
import Derived.Test.YtaknoodgpkdhbaaDoorMem
import Derived.StillTailTactics
import Derived.Deep.DeepCutAuto
import Derived.Lib.Hide
namespace Go.Proofs.YtaknoodgpkdhbaaDoor
open Go.RowKit

/-! ### the plain functions -/
def wlo (a b c d : Int) : Int := bits .or .u32 (bits .or .u32 (bits .or .u32 (a * 16777216) (b * 65536)) (c * 256)) d
def whi (v0 v1 v9 v14 : Int) : Int :=
  (v0 + ((bits BinOp.xor IntKind.u32 (bits BinOp.xor IntKind.u32 (trn v1 7) (trn v1 18)) (v1 / 8) + v9) % 4294967296 +
    bits BinOp.xor IntKind.u32 (bits BinOp.xor IntKind.u32 (trn v14 17) (trn v14 19)) (v14 / 1024)) % 4294967296) % 4294967296
def tE (r : Nat → Int) (a x : Int) : Int :=
  r 7 + bits BinOp.xor IntKind.u32 (bits BinOp.xor IntKind.u32 (trn (r 4) 6) (trn (r 4) 11)) (trn (r 4) 25) +
    bits BinOp.xor IntKind.u32 (bits BinOp.and IntKind.u32 (r 4) (r 5)) (bits BinOp.and IntKind.u32 (bits BinOp.xor IntKind.u32 IntKind.u32.max (r 4)) (r 6)) + a + x
def uE (r : Nat → Int) : Int :=
  bits BinOp.xor IntKind.u32 (bits BinOp.xor IntKind.u32 (trn (r 0) 2) (trn (r 0) 13)) (trn (r 0) 22) +
    bits BinOp.xor IntKind.u32 (bits BinOp.xor IntKind.u32 (bits BinOp.and IntKind.u32 (r 0) (r 1)) (bits BinOp.and IntKind.u32 (r 0) (r 2))) (bits BinOp.and IntKind.u32 (r 1) (r 2))
def rNext (r : Nat → Int) (a x : Int) : Nat → Int
  | 0 => (tE r a x + uE r) % 4294967296
  | 1 => r 0
  | 2 => r 1
  | 3 => r 2
  | 4 => (r 3 + tE r a x) % 4294967296
  | 5 => r 4
  | 6 => r 5
  | _ => r 6
def xAt (bs : Nat → Int) (ws : Nat → Int) (k : Nat) : Int :=
  if k < 16 then wlo (bs (4 * k)) (bs (4 * k + 1)) (bs (4 * k + 2)) (bs (4 * k + 3))
  else whi (ws (k % 16)) (ws ((k % 16 + 1) % 16)) (ws ((k % 16 + 9) % 16)) (ws ((k % 16 + 14) % 16))
def run (ad s bs : Nat → Int) : Nat → (Nat → Int) × (Nat → Int)
  | 0 => (s, fun _ => 0)
  | k + 1 => (rNext (run ad s bs k).1 (ad k) (xAt bs (run ad s bs k).2 k), fun j => if j = k % 16 then xAt bs (run ad s bs k).2 k else (run ad s bs k).2 j)
/-- what step makes of a state and 64 bytes -/
def stepF (ad s bs : Nat → Int) (j : Nat) : Int := (s j + (run ad s bs 64).1 j) % 4294967296
def agg8 (s : Nat → Int) : Value := .agg #[.int .u32 (s 0), .int .u32 (s 1), .int .u32 (s 2), .int .u32 (s 3), .int .u32 (s 4), .int .u32 (s 5), .int .u32 (s 6), .int .u32 (s 7)]

/-! ### the memory that step makes -/
structure StW (w wr : World) (s o : Nat → Int) (r : Nat → Int) (ws : Nat → Int) : Prop where
  s0 : ∀ j, j < 8 → wr.cell? ⟨w.heap.size, j, none⟩ = some (.int .u32 (s j))
  o0 : ∀ j, j < 8 → wr.cell? ⟨w.heap.size + 1, j, none⟩ = some (.int .u32 (o j))
  r0 : ∀ j, j < 8 → wr.cell? ⟨w.heap.size + 1 + 1 + 1, j, none⟩ = some (.int .u32 (r j))
  w0 : ∀ j, j < 16 → wr.cell? ⟨w.heap.size + 1 + 1, j, none⟩ = some (.int .u32 (ws j))
  fs : ∀ j, wr.frozen? ⟨w.heap.size, j, none⟩ = false
  fo : ∀ j, wr.frozen? ⟨w.heap.size + 1, j, none⟩ = false
  fr : ∀ j, wr.frozen? ⟨w.heap.size + 1 + 1 + 1, j, none⟩ = false
  fw : ∀ j, wr.frozen? ⟨w.heap.size + 1 + 1, j, none⟩ = false
  bl : Below w.heap.size w wr

theorem StW.drewn {w wr : World} {s o r ws : Nat → Int} (h : StW w wr s o r ws) (n : Nat)  : StW w (wr.drewN n) s o r ws :=
  ⟨h.s0, h.o0, h.r0, h.w0, h.fs, h.fo, h.fr, h.fw, below_drewN' h.bl n⟩

theorem cell_set {w : World} {b o o' : Nat} {n : Nat} {f : Nat → Int} (h : ∀ j, j < n → w.cell? ⟨b, j, none⟩ = some (.int .u32 (f j))) (ho : o < n) (x : Int) (ho' : o' < n) :
    (w.setCell ⟨b, o, none⟩ (.int .u32 x)).cell? ⟨b, o', none⟩ = some (.int .u32 (if o' = o then x else f o')) := by
  by_cases e : o' = o
  · subst e
    rw [if_pos rfl, World.cell?_setCell_same w _ _ (h _ ho')]
  · rw [if_neg e, World.cell?_setCell_other w _ _ _ (fun e' => e (by injection e' with _ h2; exact h2.symm)), h _ ho']

theorem StW.setW {w wr : World} {s o r ws : Nat → Int} (h : StW w wr s o r ws) {m : Nat} (hm : m < 16) (x : Int) :
    StW w (wr.setCell ⟨w.heap.size + 1 + 1, m, none⟩ (.int .u32 x)) s o r (fun j => if j = m then x else ws j) :=
  ⟨fun j hj => (cell_other _ _ (by omega)).trans (h.s0 j hj), fun j hj => (cell_other _ _ (by omega)).trans (h.o0 j hj), fun j hj => (cell_other _ _ (by omega)).trans (h.r0 j hj),
    fun j hj => cell_set h.w0 hm x hj, fun j => by rw [World.frozen?_setCell]; exact h.fs j, fun j => by rw [World.frozen?_setCell]; exact h.fo j, fun j => by rw [World.frozen?_setCell]; exact h.fr j,
    fun j => by rw [World.frozen?_setCell]; exact h.fw j, h.bl.setCell (by first | exact Nat.le_refl _ | exact Nat.le_add_right_of_le (Nat.le_add_right_of_le (Nat.le_succ _)) | exact Nat.le_add_right_of_le (Nat.le_succ _)) _⟩

theorem StW.setR {w wr : World} {s o r ws : Nat → Int} (h : StW w wr s o r ws) {m : Nat} (hm : m < 8) (x : Int) :
    StW w (wr.setCell ⟨w.heap.size + 1 + 1 + 1, m, none⟩ (.int .u32 x)) s o (fun j => if j = m then x else r j) ws :=
  ⟨fun j hj => (cell_other _ _ (by omega)).trans (h.s0 j hj), fun j hj => (cell_other _ _ (by omega)).trans (h.o0 j hj), fun j hj => cell_set h.r0 hm x hj,
    fun j hj => (cell_other _ _ (by omega)).trans (h.w0 j hj), fun j => by rw [World.frozen?_setCell]; exact h.fs j, fun j => by rw [World.frozen?_setCell]; exact h.fo j, fun j => by rw [World.frozen?_setCell]; exact h.fr j,
    fun j => by rw [World.frozen?_setCell]; exact h.fw j, h.bl.setCell (by first | exact Nat.le_refl _ | exact Nat.le_add_right_of_le (Nat.le_add_right_of_le (Nat.le_succ _)) | exact Nat.le_add_right_of_le (Nat.le_succ _)) _⟩

theorem StW.setS {w wr : World} {s o r ws : Nat → Int} (h : StW w wr s o r ws) {m : Nat} (hm : m < 8) (x : Int) :
    StW w (wr.setCell ⟨w.heap.size, m, none⟩ (.int .u32 x)) (fun j => if j = m then x else s j) o r ws :=
  ⟨fun j hj => cell_set h.s0 hm x hj, fun j hj => (cell_other _ _ (by omega)).trans (h.o0 j hj), fun j hj => (cell_other _ _ (by omega)).trans (h.r0 j hj),
    fun j hj => (cell_other _ _ (by omega)).trans (h.w0 j hj), fun j => by rw [World.frozen?_setCell]; exact h.fs j, fun j => by rw [World.frozen?_setCell]; exact h.fo j, fun j => by rw [World.frozen?_setCell]; exact h.fr j,
    fun j => by rw [World.frozen?_setCell]; exact h.fw j, h.bl.setCell (by first | exact Nat.le_refl _ | exact Nat.le_add_right_of_le (Nat.le_add_right_of_le (Nat.le_succ _)) | exact Nat.le_add_right_of_le (Nat.le_succ _)) _⟩

theorem StW.setO {w wr : World} {s o r ws : Nat → Int} (h : StW w wr s o r ws) {m : Nat} (hm : m < 8) (x : Int) :
    StW w (wr.setCell ⟨w.heap.size + 1, m, none⟩ (.int .u32 x)) s (fun j => if j = m then x else o j) r ws :=
  ⟨fun j hj => (cell_other _ _ (by omega)).trans (h.s0 j hj), fun j hj => cell_set h.o0 hm x hj, fun j hj => (cell_other _ _ (by omega)).trans (h.r0 j hj),
    fun j hj => (cell_other _ _ (by omega)).trans (h.w0 j hj), fun j => by rw [World.frozen?_setCell]; exact h.fs j, fun j => by rw [World.frozen?_setCell]; exact h.fo j, fun j => by rw [World.frozen?_setCell]; exact h.fr j,
    fun j => by rw [World.frozen?_setCell]; exact h.fw j, h.bl.setCell (by first | exact Nat.le_refl _ | exact Nat.le_add_right_of_le (Nat.le_add_right_of_le (Nat.le_succ _)) | exact Nat.le_add_right_of_le (Nat.le_succ _) | exact Nat.le_succ _) _⟩

theorem StW.congr {w wr : World} {s s' o r r' ws ws' : Nat → Int} (h : StW w wr s o r ws) (hs : ∀ j, j < 8 → s' j = s j) (hr : ∀ j, j < 8 → r' j = r j) (hw : ∀ j, j < 16 → ws' j = ws j) : StW w wr s' o r' ws' :=
  ⟨fun j hj => by rw [hs j hj]; exact h.s0 j hj, h.o0, fun j hj => by rw [hr j hj]; exact h.r0 j hj, fun j hj => by rw [hw j hj]; exact h.w0 j hj, h.fs, h.fo, h.fr, h.fw, h.bl⟩

theorem and15 (k : Nat) (h : k < 64) : bits BinOp.and IntKind.i64 (k : Int) 15 = ((k % 16 : Nat) : Int) := by
  have := bits_mask .i64 63 (by decide) (fun n h0 h1 => by rw [IntKind.wrap_i64]; omega) 4 (by decide) (k : Int) (by omega) (by omega)
  simpa using this

theorem lt8 {j : Nat} (h : j < 8) : j = 0 ∨ j = 1 ∨ j = 2 ∨ j = 3 ∨ j = 4 ∨ j = 5 ∨ j = 6 ∨ j = 7 := by omega

theorem start_StW (w : World) (s : Nat → Int) :
    StW w ((((w.alloc (.cells #[.int .u32 (s 0), .int .u32 (s 1), .int .u32 (s 2), .int .u32 (s 3), .int .u32 (s 4), .int .u32 (s 5), .int .u32 (s 6), .int .u32 (s 7)] 52)).alloc
      (.cells #[.int .u32 0, .int .u32 0, .int .u32 0, .int .u32 0, .int .u32 0, .int .u32 0, .int .u32 0, .int .u32 0] 52)).alloc
      (.cells #[.int .u32 0, .int .u32 0, .int .u32 0, .int .u32 0, .int .u32 0, .int .u32 0, .int .u32 0, .int .u32 0, .int .u32 0, .int .u32 0, .int .u32 0, .int .u32 0, .int .u32 0, .int .u32 0, .int .u32 0, .int .u32 0] 58)).alloc
      (.cells #[.int .u32 (s 0), .int .u32 (s 1), .int .u32 (s 2), .int .u32 (s 3), .int .u32 (s 4), .int .u32 (s 5), .int .u32 (s 6), .int .u32 (s 7)] 52)) s (fun _ => 0) s (fun _ => 0) := by
  refine ⟨?_, ?_, ?_, ?_, ?_, ?_, ?_, ?_, ?_⟩
  · intro j hj; rcases lt8 hj with rfl | rfl | rfl | rfl | rfl | rfl | rfl | rfl <;> go_simp
  · intro j hj; rcases lt8 hj with rfl | rfl | rfl | rfl | rfl | rfl | rfl | rfl <;> go_simp
  · intro j hj; rcases lt8 hj with rfl | rfl | rfl | rfl | rfl | rfl | rfl | rfl <;> go_simp
  · intro j hj
    rcases (show j = 0 ∨ j = 1 ∨ j = 2 ∨ j = 3 ∨ j = 4 ∨ j = 5 ∨ j = 6 ∨ j = 7 ∨ j = 8 ∨ j = 9 ∨ j = 10 ∨ j = 11 ∨ j = 12 ∨ j = 13 ∨ j = 14 ∨ j = 15 by omega) with
      rfl | rfl | rfl | rfl | rfl | rfl | rfl | rfl | rfl | rfl | rfl | rfl | rfl | rfl | rfl | rfl <;> go_simp
  · intro j; go_simp
  · intro j; go_simp
  · intro j; go_simp
  · intro j; go_simp
  · exact (((((Below.refl _ _).alloc (Nat.le_refl _) _).alloc (by simp) _).alloc (by simp; omega) _).alloc (by simp; omega) _)


set_option maxRecDepth 100000 in
set_option maxHeartbeats 2000000 in
theorem step_any (s : Nat → Int) (bs : Nat → Int) (b : Nat) (off len cap : Nat) (w : World) (hb : b < w.heap.size) (hlen : 64 ≤ len)
   (h1 : 1 < w.heap.size) (ad : Nat → Int) (hA : ∀ j, j < 64 → w.cell? ⟨1, j, none⟩ = some (.int .u32 (ad j)))
   (hbs : ∀ j, j < 64 → w.cell? ⟨b, off + j, none⟩ = some (.int .u8 (bs j))) (hB : ∀ j, 0 ≤ bs j ∧ bs j ≤ 255) :
    Calls Tryd.prog 16 #[agg8 s, .slice (some ⟨b, off, none⟩) len cap] w fun e w' => e = .returned (agg8 (stepF ad s bs)) ∧ Below w.heap.size w w' := by
  unfold agg8
  go_enter Tryd.func16, Tryd.ntmps16
  go_wp2
  go_loopw [15] (fun i wr => ∃ k : Nat, k ≤ 64 ∧ i = .int .i64 k ∧ StW w wr s (fun _ => 0) (run ad s bs k).1 (run ad s bs k).2) (fun i _ => 64 - (intOf i).toNat)
  case atStart => exact ⟨0, by omega, rfl, start_StW w s⟩
  case round =>
    obtain ⟨k, hk, rfl, h⟩ := hrel
    by_cases hk64 : k < 64
    · have HN1 : Hid (run ad s bs (k + 1) = (rNext (run ad s bs k).1 (ad k) (xAt bs (run ad s bs k).2 k), fun j => if j = k % 16 then xAt bs (run ad s bs k).2 k else (run ad s bs k).2 j)) := Lib.hid rfl
      generalize (run ad s bs k).1 = r at *
      generalize (run ad s bs k).2 = ws at *
      have e1 := and15 k hk64
      obtain ⟨m, hm⟩ : ∃ m, m = k % 16 := ⟨_, rfl⟩
      rw [← hm] at e1
      have hm16 : m < 16 := by omega
      have Hm := Lib.hid hm
      clear hm
      obtain ⟨x, hx⟩ : ∃ x, x = xAt bs ws k := ⟨_, rfl⟩
      have Hx := Lib.hid hx
      clear hx
      go_upto_if 21 with fail
      go_cut [] (fun wx => StW w wx s (fun _ => 0) r (fun j => if j = m then x else ws j))
      case first =>
        by_cases hlt : k < 16
        · obtain rfl : m = k := by have := Hm.out; omega
          have HX : Hid (x = wlo (bs (4 * m)) (bs (4 * m + 1)) (bs (4 * m + 2)) (bs (4 * m + 3))) := Lib.hid (by rw [Hx.out]; unfold xAt; rw [if_pos hlt])
          have b0 : wr.cell? ⟨b, off + 4 * m, none⟩ = some (.int .u8 (bs (4 * m))) := (h.bl.cell (by exact hb)).trans (hbs _ (by omega))
          have b1 : wr.cell? ⟨b, off + (4 * m + 1), none⟩ = some (.int .u8 (bs (4 * m + 1))) := (h.bl.cell (by exact hb)).trans (hbs _ (by omega))
          have b2 : wr.cell? ⟨b, off + (4 * m + 2), none⟩ = some (.int .u8 (bs (4 * m + 2))) := (h.bl.cell (by exact hb)).trans (hbs _ (by omega))
          have b3 : wr.cell? ⟨b, off + (4 * m + 3), none⟩ = some (.int .u8 (bs (4 * m + 3))) := (h.bl.cell (by exact hb)).trans (hbs _ (by omega))
          have g0 := hB (4 * m)
          have g1 := hB (4 * m + 1)
          have g2 := hB (4 * m + 2)
          have g3 := hB (4 * m + 3)
          generalize bs (4 * m) = y0 at *
          generalize bs (4 * m + 1) = y1 at *
          generalize bs (4 * m + 2) = y2 at *
          generalize bs (4 * m + 3) = y3 at *
          have wk := h.w0 m (by omega)
          have fk := h.fw m
          have k0 : 0 ≤ (m : Int) := by omega
          have k16 : (m : Int) < 16 := by omega
          have q0 : IntKind.i64.wrap (4 * (m : Int)) = 4 * (m : Int) := by rw [IntKind.wrap_i64]; omega
          have z0 : 0 ≤ 4 * (m : Int) := by omega
          have l0 : 4 * (m : Int) < (len : Int) := by omega
          have t0 : (4 * (m : Int)).toNat = 4 * m := by omega
          have q1 : IntKind.i64.wrap (4 * (m : Int) + 1) = 4 * (m : Int) + 1 := by rw [IntKind.wrap_i64]; omega
          have z1 : 0 ≤ 4 * (m : Int) + 1 := by omega
          have l1 : 4 * (m : Int) + 1 < (len : Int) := by omega
          have t1 : (4 * (m : Int) + 1).toNat = 4 * m + 1 := by omega
          have q2 : IntKind.i64.wrap (4 * (m : Int) + 2) = 4 * (m : Int) + 2 := by rw [IntKind.wrap_i64]; omega
          have z2 : 0 ≤ 4 * (m : Int) + 2 := by omega
          have l2 : 4 * (m : Int) + 2 < (len : Int) := by omega
          have t2 : (4 * (m : Int) + 2).toNat = 4 * m + 2 := by omega
          have q3 : IntKind.i64.wrap (4 * (m : Int) + 3) = 4 * (m : Int) + 3 := by rw [IntKind.wrap_i64]; omega
          have z3 : 0 ≤ 4 * (m : Int) + 3 := by omega
          have l3 : 4 * (m : Int) + 3 < (len : Int) := by omega
          have t3 : (4 * (m : Int) + 3).toNat = 4 * m + 3 := by omega
          go_wp2
          go_still_tail 35, (by kernel_rfl)
          change wpList _ _ _ _ _ wr.drew
          go_wp2
          go_meet
          rw [HX.out]
          exact (h.setW hm16 _).drewn 1
        · have HX : Hid (x = whi (ws m) (ws ((m + 1) % 16)) (ws ((m + 9) % 16)) (ws ((m + 14) % 16))) := Lib.hid (by rw [Hx.out]; unfold xAt; rw [if_neg hlt, ← Hm.out])
          obtain ⟨m1, hm1⟩ : ∃ i, i = (m + 1) % 16 := ⟨_, rfl⟩
          obtain ⟨m9, hm9⟩ : ∃ i, i = (m + 9) % 16 := ⟨_, rfl⟩
          obtain ⟨m14, hm14⟩ : ∃ i, i = (m + 14) % 16 := ⟨_, rfl⟩
          rw [← hm1, ← hm9, ← hm14] at HX
          have k0 : 0 ≤ (k : Int) := by omega
          have k16 : ¬ (k : Int) < 16 := by omega
          have d1 : bits BinOp.and IntKind.i64 ((m : Int) + 1) 15 = (m1 : Int) := by have := and15 (m + 1) (by omega); rw [hm1, ← this]; simp
          have d9 : bits BinOp.and IntKind.i64 ((m : Int) + 9) 15 = (m9 : Int) := by have := and15 (m + 9) (by omega); rw [hm9, ← this]; simp
          have d14 : bits BinOp.and IntKind.i64 ((m : Int) + 14) 15 = (m14 : Int) := by have := and15 (m + 14) (by omega); rw [hm14, ← this]; simp
          have q1 : IntKind.i64.wrap ((m : Int) + 1) = (m : Int) + 1 := by rw [IntKind.wrap_i64]; omega
          have q9 : IntKind.i64.wrap ((m : Int) + 9) = (m : Int) + 9 := by rw [IntKind.wrap_i64]; omega
          have q14 : IntKind.i64.wrap ((m : Int) + 14) = (m : Int) + 14 := by rw [IntKind.wrap_i64]; omega
          have c1 := h.w0 m1 (by omega)
          have c9 := h.w0 m9 (by omega)
          have c14 := h.w0 m14 (by omega)
          have cm := h.w0 m hm16
          have fm := h.fw m
          have i0 : 0 ≤ (m : Int) := by omega
          have i1 : 0 ≤ (m1 : Int) := by omega
          have i9 : 0 ≤ (m9 : Int) := by omega
          have i14 : 0 ≤ (m14 : Int) := by omega
          have j0 : (m : Int) < 16 := by omega
          have j1 : (m1 : Int) < 16 := by omega
          have j9 : (m9 : Int) < 16 := by omega
          have j14 : (m14 : Int) < 16 := by omega
          clear hm1 hm9 hm14
          go_wp2
          go_quiet (fail)
          go_wp2
          refine wp_region_drawn_tail 28 (by kernel_rfl) (by kernel_rfl) ?_
          simp only [List.take_succ_cons, List.take_zero, List.drop_succ_cons, List.drop_zero]
          repeat (quiet_step ((go_at_call 20; exact quiet_more (turn_any _ _ _ (by omega) (by omega)))))
          refine wpQuiet_nil ?_
          intro _ hw'
          obtain ⟨nr, hw''⟩ := hw'
          subst hw''
          go_wp2
          go_meet
          rw [HX.out]
          exact (h.drewn _).setW hm16 _
      case rest =>
        have h' := hcut
        have r0 := h'.r0 0 (by omega)
        have r1 := h'.r0 1 (by omega)
        have r2 := h'.r0 2 (by omega)
        have r3 := h'.r0 3 (by omega)
        have r4 := h'.r0 4 (by omega)
        have r5 := h'.r0 5 (by omega)
        have r6 := h'.r0 6 (by omega)
        have r7 := h'.r0 7 (by omega)
        have f0 := h'.fr 0
        have f1 := h'.fr 1
        have f2 := h'.fr 2
        have f3 := h'.fr 3
        have f4 := h'.fr 4
        have f5 := h'.fr 5
        have f6 := h'.fr 6
        have f7 := h'.fr 7
        have wm : wc.cell? ⟨w.heap.size + 1 + 1, m, none⟩ = some (.int .u32 x) := by have := h'.w0 m hm16; simpa using this
        have ak : wc.cell? ⟨1, k, none⟩ = some (.int .u32 (ad k)) := (h'.bl.cell (by exact h1)).trans (hA _ (by omega))
        have k0 : 0 ≤ (k : Int) := by omega
        have k64 : (k : Int) < 64 := by omega
        have i0 : 0 ≤ (m : Int) := by omega
        have j0 : (m : Int) < 16 := by omega
        go_wp2
        go_quiet ((go_at_call 20; exact Calls.quiet_of (turn_any _ _ _ (by omega) (by omega))))
        go_wp2
        go_quiet ((go_at_call 20; exact quiet_more (turn_any _ _ _ (by omega) (by omega))))
        go_wp2
        go_roundw
        case rel =>
          refine ⟨k + 1, by omega, by go_num, ?_⟩
          rw [HN1.out, ← Hx.out, ← Hm.out]
          refine StW.congr (((((((((h'.drewn _).setR (m := 0) (by omega) _).setR (m := 1) (by omega) _).setR (m := 2) (by omega) _).setR (m := 3) (by omega) _).setR (m := 4) (by omega) _).setR (m := 5) (by omega) _).setR (m := 6) (by omega) _).setR (m := 7) (by omega) _) (fun _ _ => rfl) (fun j hj => ?_) (fun _ _ => rfl)
          rcases lt8 hj with rfl | rfl | rfl | rfl | rfl | rfl | rfl | rfl <;> rfl
        case measure => simp [intOf]; omega
    · have h64 : 64 ≤ (k : Int) := by omega
      obtain ⟨sf, hsf⟩ : ∃ sf, sf = stepF ad s bs := ⟨_, rfl⟩
      have HS : Hid (∀ j, sf j = (s j + (run ad s bs k).1 j) % 4294967296) := Lib.hid (fun _ => by rw [hsf, show k = 64 by omega]; rfl)
      have Hsf := Lib.hid hsf
      clear hsf
      generalize (run ad s bs k).1 = r at *
      generalize (run ad s bs k).2 = ws at *
      go_wp2
      go_loopw [180] (fun i wq => ∃ j : Nat, j ≤ 8 ∧ i = .int .i64 j ∧ StW w wq (fun i => if i < j then sf i else s i) (fun _ => 0) r ws) (fun i _ => 8 - (intOf i).toNat)
      case atStart => exact ⟨0, by omega, rfl, h.congr (fun j _ => by simp) (fun _ _ => rfl) (fun _ _ => rfl)⟩
      case round =>
        obtain ⟨j, hj, rfl, g⟩ := hrel
        by_cases hj8 : j < 8
        · have cs := g.s0 j hj8
          rw [if_neg (Nat.lt_irrefl j)] at cs
          have cr := g.r0 j hj8
          have fs := g.fs j
          have k0 : 0 ≤ (j : Int) := by omega
          have k8 : (j : Int) < 8 := by omega
          go_wp2
          refine wp_region_drawn_tail 8 (by kernel_rfl) (by kernel_rfl) ?_
          simp only [List.take_succ_cons, List.take_zero, List.drop_succ_cons, List.drop_zero]
          repeat (quiet_step (fail))
          refine wpQuiet_nil ?_
          intro _ hw'
          obtain ⟨nr, hw''⟩ := hw'
          subst hw''
          go_wp2
          go_roundw
          case rel =>
            refine ⟨j + 1, by omega, by go_num, ?_⟩
            refine ((g.drewn _).setS hj8 _).congr (fun i hi => ?_) (fun _ _ => rfl) (fun _ _ => rfl)
            by_cases e : i = j
            · subst e; rw [if_pos (Nat.lt_succ_self i), if_pos rfl, HS.out]
            · rw [if_neg e]
              by_cases e2 : i < j
              · rw [if_pos (by omega), if_pos e2]
              · rw [if_neg (by omega), if_neg e2]
          case measure => simp [intOf]; omega
        · obtain rfl : j = 8 := by omega
          have cs : ∀ i, i < 8 → wr.cell? ⟨w.heap.size, i, none⟩ = some (.int .u32 (sf i)) := fun i hi => by have := g.s0 i hi; rwa [if_pos hi] at this
          have c0 := cs 0 (by omega)
          have c1 := cs 1 (by omega)
          have c2 := cs 2 (by omega)
          have c3 := cs 3 (by omega)
          have c4 := cs 4 (by omega)
          have c5 := cs 5 (by omega)
          have c6 := cs 6 (by omega)
          have c7 := cs 7 (by omega)
          have o0 := g.o0 0 (by omega)
          have o1 := g.o0 1 (by omega)
          have o2 := g.o0 2 (by omega)
          have o3 := g.o0 3 (by omega)
          have o4 := g.o0 4 (by omega)
          have o5 := g.o0 5 (by omega)
          have o6 := g.o0 6 (by omega)
          have o7 := g.o0 7 (by omega)
          have f0 := g.fo 0
          have f1 := g.fo 1
          have f2 := g.fo 2
          have f3 := g.fo 3
          have f4 := g.fo 4
          have f5 := g.fo 5
          have f6 := g.fo 6
          have f7 := g.fo 7
          go_wp2
          refine bodyPost_ret (v := agg8 (stepF ad s bs)) ?_ rfl ⟨rfl, ?_⟩
          · have W := ((((((((g.setO (m := 0) (by omega) (sf 0)).setO (m := 1) (by omega) (sf 1)).setO (m := 2) (by omega) (sf 2)).setO (m := 3) (by omega) (sf 3)).setO (m := 4) (by omega) (sf 4)).setO (m := 5) (by omega) (sf 5)).setO (m := 6) (by omega) (sf 6)).setO (m := 7) (by omega) (sf 7))
            have w0 := W.o0 0 (by omega)
            have w1 := W.o0 1 (by omega)
            have w2 := W.o0 2 (by omega)
            have w3 := W.o0 3 (by omega)
            have w4 := W.o0 4 (by omega)
            have w5 := W.o0 5 (by omega)
            have w6 := W.o0 6 (by omega)
            have w7 := W.o0 7 (by omega)
            simp only [Nat.reduceEqDiff, if_false, if_true] at w0 w1 w2 w3 w4 w5 w6 w7
            rw [← Hsf.out]
            unfold agg8
            simp [results, Tryd.results16, go_sem, w0, w1, w2, w3, w4, w5, w6, w7]
          · exact ((((((((g.bl.setCell (by simp) _).setCell (by simp) _).setCell (by simp) _).setCell (by simp) _).setCell (by simp) _).setCell (by simp) _).setCell (by simp) _).setCell (by simp) _)
end Go.Proofs.YtaknoodgpkdhbaaDoor
