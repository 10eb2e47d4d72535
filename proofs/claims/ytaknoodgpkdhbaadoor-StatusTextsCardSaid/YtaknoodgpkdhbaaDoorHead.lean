/- The contract of the law's head: the document's example. -/
import Derived.Test.YtaknoodgpkdhbaaDoorStext

namespace Go.Proofs.YtaknoodgpkdhbaaDoor
open Go.RowKit Go.Sort

/-- what the walks of this seat ask of the library's and the project's tables -/
structure Laid (ad fi : Nat → Int) (w : World) : Prop where
  tabs : Tabs ad fi w
  h2 : 2 < w.heap.size
  pow : Lib.TabIs Tryd.prog w "internal/strconv.uint64pow10" .u64 Lib.pow10Tab
theorem Laid.below {ad fi : Nat → Int} {w w' : World} (h : Laid ad fi w) {B : Nat} (hb : Below B w w') (hB : 2 < B) : Laid ad fi w' :=
  ⟨h.tabs.below hb (by omega), Nat.lt_of_lt_of_le h.h2 hb.size, var?_below hb (by kernel_rfl) hB h.pow⟩

abbrev h34 : Array Value := #[Value.int IntKind.i64 7, Value.int IntKind.i64 0, Value.int IntKind.u8 0, Value.int IntKind.u8 0, Value.int IntKind.u8 0, Value.int IntKind.u8 0, Value.int IntKind.u8 0, Value.int IntKind.u8 0, Value.int IntKind.u8 0, Value.int IntKind.u8 0, Value.int IntKind.u8 0, Value.int IntKind.u8 0, Value.int IntKind.u8 0, Value.int IntKind.u8 0, Value.int IntKind.u8 0, Value.int IntKind.u8 0, Value.int IntKind.u8 0, Value.int IntKind.u8 0, Value.int IntKind.u8 0, Value.int IntKind.u8 0, Value.int IntKind.u8 0, Value.int IntKind.u8 0, Value.int IntKind.u8 0, Value.int IntKind.u8 0, Value.int IntKind.u8 0, Value.int IntKind.u8 0, Value.int IntKind.u8 0, Value.int IntKind.u8 0, Value.int IntKind.u8 0, Value.int IntKind.u8 0, Value.int IntKind.u8 0, Value.int IntKind.u8 0, Value.int IntKind.u8 0, Value.int IntKind.u8 0]
theorem hist_head (w : World) : Hist (w.alloc (.cells h34 27)) (some ⟨w.heap.size, 0, none⟩) 1 (fun _ => 7) (fun _ _ => 0) := by
  refine ⟨fun i hi => ⟨w.heap.size, 0, 0, rfl, by simp, ?_⟩, fun _ => by omega, fun _ _ => by omega⟩
  obtain rfl : i = 0 := by omega
  intro j v hv
  simp only [Nat.zero_mul, Nat.zero_add]
  rw [World.cell?_alloc_new, ← hv]
  have hl : h34.toList = (.int .i64 7 :: .int .i64 0 :: lst 32 (u8c (fun _ => 0)) : List Value) := by rfl
  rw [← hl, Array.getElem?_toList]

set_option maxRecDepth 100000 in
set_option maxHeartbeats 1000000 in
theorem head_any (ad fi : Nat → Int) (w : World) (hL : Laid ad fi w) :
    Calls Tryd.prog 5 #[] w fun e w' => e = .returned (.bool true) ∧ Below w.heap.size w w' := by
  go_enter Tryd.func5, Tryd.ntmps5
  go_wp2_with fail
  have hb0 : Below w.heap.size w (w.alloc (.cells h34 27)) := (Below.refl _ _).alloc (Nat.le_refl _) _
  refine (stext_any (some ⟨w.heap.size, 0, none⟩) 1 1 (fun _ => 7) (fun _ _ => 0) _ (by omega) (hist_head w) (by have := hL.h2; simp; omega) (hL.below hb0 hL.h2).pow).mono ?_
  rintro e w1 ⟨rfl, hb1⟩
  obtain ⟨s, hs⟩ : ∃ s : ByteArray, s = ⟨(histL (fun _ => 7) (fun _ _ => 0) 1).toArray⟩ := ⟨_, rfl⟩
  rw [← hs]
  have e0 : histL (fun _ => 7) (fun _ _ => 0) 1 = List.replicate 64 48 ++ [58, 55, 58] := by decide +kernel
  rw [e0] at hs
  have hz : s.size = 67 := by rw [hs]; rfl
  have hx : ((s.extract 64 s.size).toList == [58, 55, 58]) = true := by rw [hz, hs]; decide +kernel
  clear hs e0
  have hz' : ((s.size : Int) == 67) = true := by rw [hz]; rfl
  have hz2 : (64 : Int) ≤ (s.size : Int) := by omega
  have Hz := Lib.hid hz
  clear hz
  go_wp2
  go_ret
  exact ⟨rfl, hb0.trans (hb1.mono (by simp))⟩
end Go.Proofs.YtaknoodgpkdhbaaDoor
