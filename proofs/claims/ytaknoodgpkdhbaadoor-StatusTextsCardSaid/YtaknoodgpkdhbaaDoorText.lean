/- The contract of sha.Text. -/
import Derived.Test.YtaknoodgpkdhbaaDoorClimb
import Derived.Test.YtaknoodgpkdhbaaDoorShelf
import Derived.Deep.RegionHeld3
import Derived.Deep.AppendLies
import Derived.StillTactics

namespace Go.Proofs.YtaknoodgpkdhbaaDoor
open Go.RowKit

def hexs : List UInt8 := [48, 49, 50, 51, 52, 53, 54, 55, 56, 57, 97, 98, 99, 100, 101, 102]
/-- the sign of a number below 16 -/
def hexd (x : Int) : UInt8 := hexs.getD x.toNat 0
theorem hexd_get (x : Int) (h : x.toNat < (ByteArray.mk #[48, 49, 50, 51, 52, 53, 54, 55, 56, 57, 97, 98, 99, 100, 101, 102]).size) : (ByteArray.mk #[48, 49, 50, 51, 52, 53, 54, 55, 56, 57, 97, 98, 99, 100, 101, 102])[x.toNat]'h = hexd x := by
  unfold hexd
  generalize x.toNat = n at *
  have hn : n < 16 := h
  rcases (show n = 0 ∨ n = 1 ∨ n = 2 ∨ n = 3 ∨ n = 4 ∨ n = 5 ∨ n = 6 ∨ n = 7 ∨ n = 8 ∨ n = 9 ∨ n = 10 ∨ n = 11 ∨ n = 12 ∨ n = 13 ∨ n = 14 ∨ n = 15 by omega) with
    rfl | rfl | rfl | rfl | rfl | rfl | rfl | rfl | rfl | rfl | rfl | rfl | rfl | rfl | rfl | rfl <;> rfl
/-- the signs of the last k bytes, the last one first -/
def textF (f : Nat → Int) : Nat → List UInt8
  | 0 => []
  | k + 1 => textF f k ++ [hexd (f (31 - k) / 16), hexd (f (31 - k) % 16)]
theorem textF_length (f : Nat → Int) (k : Nat) : (textF f k).length = 2 * k := by
  induction k with
  | zero => rfl
  | succ k ih => simp [textF, ih]; omega

set_option maxRecDepth 100000 in
set_option maxHeartbeats 1000000 in
theorem text_any (f : Nat → Int) (w : World) (hf : ∀ j, 0 ≤ f j ∧ f j ≤ 255) :
    Calls Tryd.prog 6 #[agg32 f] w fun e w' => e = .returned (.string ⟨(textF f 32).toArray⟩) ∧ Below w.heap.size w w' := by
  obtain ⟨i0, hi, hz0, hz1, hz2⟩ := info_parts Tryd.info5
  obtain ⟨l, hl⟩ : ∃ l, l = lst 32 (u8c f) := ⟨_, rfl⟩
  unfold agg32
  rw [← hl]
  have Hl := Lib.hid hl
  clear hl
  go_enter Tryd.func6, Tryd.ntmps6
  go_wp2
  go_loopw [3, 4] (fun v i wr => ∃ k : Nat, k ≤ 32 ∧ i = .int .i64 (31 - (k : Int)) ∧ wr.ownsRow (w.heap.size + 1) 5 1 v (2 * k) (Lib.byteCells (textF f k)) ∧ Row wr w.heap.size 0 32 (u8c f) ∧ Below w.heap.size w wr ∧ w.heap.size + 1 ≤ wr.heap.size) (fun _ i _ => (intOf i + 1).toNat)
  case atStart => exact ⟨0, by omega, rfl, World.ownsRow_nil _ _ _ _, (Row.new w l.toArray 25 (u8c f) 32 (fun j hj => by rw [Hl.out, List.getElem?_toArray]; exact lst_get hj)), (Below.refl _ _).alloc (Nat.le_refl _) _, by simp⟩
  case round =>
    obtain ⟨k, hk, rfl, hown, hr, hb, hs⟩ := hrel
    obtain ⟨xs, hxs⟩ : ∃ xs, xs = Lib.byteCells (textF f k) := ⟨_, rfl⟩
    rw [← hxs] at hown
    have Hxs := Lib.hid hxs
    clear hxs
    by_cases hk32 : k < 32
    · obtain ⟨j, hj⟩ : ∃ j : Nat, j = 31 - k := ⟨_, rfl⟩
      have hjk : (31 - (k : Int)) = (j : Int) := by omega
      rw [hjk]
      have Hj := Lib.hid hj
      have Hjk := Lib.hid hjk
      clear hj hjk
      have hj32 : (j : Int) < 32 := by have := Hj.out; omega
      have hj0 : 0 ≤ (j : Int) := by omega
      have hc := hr.at j (by omega)
      unfold u8c at hc
      obtain ⟨b0, b1⟩ := hf j
      have Hnx : Hid (textF f (k + 1) = textF f k ++ [hexd (f j / 16), hexd (f j % 16)]) := Lib.hid (by rw [Hj.out]; rfl)
      generalize f j = y at *
      obtain ⟨a, ha⟩ : ∃ a, a = hexd (y / 16) := ⟨_, rfl⟩
      obtain ⟨c, hcc⟩ : ∃ c, c = hexd (y % 16) := ⟨_, rfl⟩
      have ga : ∀ h, (ByteArray.mk #[48, 49, 50, 51, 52, 53, 54, 55, 56, 57, 97, 98, 99, 100, 101, 102])[(y / 16).toNat]'h = a := fun h => by rw [ha]; exact hexd_get _ h
      have gc : ∀ h, (ByteArray.mk #[48, 49, 50, 51, 52, 53, 54, 55, 56, 57, 97, 98, 99, 100, 101, 102])[(y % 16).toNat]'h = c := fun h => by rw [hcc]; exact hexd_get _ h
      rw [← ha, ← hcc] at Hnx
      clear ha hcc
      have hne : u3.ownBlock ≠ some w.heap.size := fun e => by have := hown.lt _ e; omega
      go_wp2_with fail
      have y16 : y / 16 < 16 := by omega
      have y0 : 0 ≤ y / 16 := by omega
      have z16 : y % 16 < 16 := by omega
      have z0 : 0 ≤ y % 16 := by omega
      have e1 : bits BinOp.and IntKind.u8 y 15 = y % 16 := by
        have := bits_mask .u8 8 (by decide) wraps_u8 4 (by decide) y (by omega) (by omega)
        simpa using this
      go_region_held3 (fun w' => w'.cell? ⟨w.heap.size, j, none⟩ = some (.int .u8 y))
        (first
          | go_keep
          | (rw [hgrow.cell_far _ (by simp; omega) (Ne.symm hne)]; assumption))
        ((refine step_append_lies _ (by rfl) _ _ _ (by rfl) (w.heap.size + 1) 5 i0 _ 1 1 Tryd.underlying34 hi hz0 hz1 hz2 rfl (by omega) u3 (2 * k) xs (by rfl) ((hown.alloc _).drew)
            ⟨wr.heap.size, 0, none⟩ 2 2 [.int .u8 a.toNat, .int .u8 c.toNat] (by rfl) (by rfl) (World.news_of_block (cs := #[.int .u8 a.toNat, .int .u8 c.toNat]) (t := 5) (fr := (0, 0)) (heap_alloc_new wr _)) (by simp [Value.oneCell'])
            (by omega) (by unfold maxLen; omega) (by omega) (by simp; omega) (wr.heap.size + 1) (by simp) ?_; intro gg cap w1 hown1 hgrow hat hlt))
      all_goals
        have hbw : Below w.heap.size w w1 := (hb.alloc (by omega) _).drew.grown hgrow (by simp; omega) (fun k hk => by have := hown.lt _ hk; omega)
        have hrw : Row w1 w.heap.size 0 32 (u8c f) := fun j hj => (hgrow.cell_far (a := ⟨w.heap.size, 0 + j, none⟩) (by simp; omega) (Ne.symm hne)).trans ((hr.alloc (by omega) _) j hj)
        have hsw : w.heap.size + 1 ≤ w1.heap.size := by have := hgrow.size; simp at this; omega
        have hown2 : w1.ownsRow (w.heap.size + 1) 5 1 (.slice (some ⟨gg, 0, none⟩) (2 * k + 2) cap) (2 * (k + 1)) (Lib.byteCells (textF f (k + 1))) := by
          rw [Hnx.out, Lib.byteCells_append, ← Hxs.out]
          exact hown1
        clear hown1 hgrow hown hr hb hc
        go_wp2
        go_roundw
        case rel => exact ⟨k + 1, by omega, by rw [show ((j : Int) - 1) = 31 - ((k + 1 : Nat) : Int) by have := Hjk.out; omega], hown2, hrw, hbw, hsw⟩
        case measure => simp only [intOf]; omega
    · have hk' : k = 32 := by omega
      have hneg : (31 - (k : Int)) < 0 := by omega
      obtain ⟨tx, htx⟩ : ∃ tx, tx = textF f k := ⟨_, rfl⟩
      have Htx : Hid (tx = textF f 32) := Lib.hid (by rw [htx, hk'])
      have hlen : tx.length = 2 * k - 1 + 1 := by rw [htx, textF_length]; omega
      rw [← htx] at Hxs
      clear htx
      obtain ⟨g, c, rfl, hg1, hg2, hc, hrg⟩ := own_view (n := 2 * k - 1) (by rw [show 2 * k - 1 + 1 = 2 * k by omega]; exact hown)
      have hcv := run_convert_bytes_back (P := Tryd.prog) wr 34 9 5 ⟨g, 0, none⟩ c tx Tryd.underlying34 Tryd.underlying5 Tryd.underlying9 (fun j hj => by
        rw [Addr.add_mid]
        refine hrg j _ ?_
        rw [Hxs.out, Lib.byteCells, List.getElem?_map, List.getElem?_eq_getElem hj]
        rfl)
      rw [hlen] at hcv
      clear hlen hk' hown
      go_wp2
      go_ret
      exact ⟨congrArg (fun l : List UInt8 => Ending.returned (.string ⟨l.toArray⟩)) Htx.out, hb⟩
end Go.Proofs.YtaknoodgpkdhbaaDoor
