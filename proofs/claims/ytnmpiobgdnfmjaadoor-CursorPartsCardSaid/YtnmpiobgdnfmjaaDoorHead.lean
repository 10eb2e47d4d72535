/- The law's own 'head'. -/
import Derived.Test.YtnmpiobgdnfmjaaDoorOrd
namespace Go.Proofs.YtnmpiobgdnfmjaaDoor
open Go Go.RowKit

abbrev chA : ByteArray := ⟨#[97]⟩
abbrev chB : ByteArray := ⟨#[98]⟩
abbrev chC : ByteArray := ⟨#[99]⟩
abbrev noStr : ByteArray := ⟨#[]⟩
abbrev exL : List Ent := [⟨chA, 5, false, noStr⟩, ⟨chB, 4, true, noStr⟩, ⟨chB, 2, false, noStr⟩, ⟨chC, 9, false, noStr⟩]
abbrev exObj : Obj := .cells #[.string ⟨#[97]⟩, .int .u64 5, .bool false, .string ⟨#[]⟩, .string ⟨#[98]⟩, .int .u64 4, .bool true, .string ⟨#[]⟩, .string ⟨#[98]⟩, .int .u64 2, .bool false, .string ⟨#[]⟩, .string ⟨#[99]⟩, .int .u64 9, .bool false, .string ⟨#[]⟩] 30
theorem ex8 : liveL 8 9 exL [] noStr false = [⟨chA, 5, false, noStr⟩] := by decide +kernel
theorem ex3 : liveL 3 9 exL [] noStr false = [⟨chB, 2, false, noStr⟩] := by decide +kernel
theorem exOk : ∀ x, x ∈ exL → x.ok := by
  intro x hx
  simp only [List.mem_cons, List.not_mem_nil, or_false] at hx
  rcases hx with rfl | rfl | rfl | rfl <;> exact ⟨by decide, by decide, by decide, by decide⟩
theorem exSeek : ∀ y r, exL = y :: r → ¬ cmpE y ⟨noStr, 72057594037927935, false, ⟨#[]⟩⟩ < 0 := by
  intro y r h
  cases h
  decide +kernel

set_option maxRecDepth 100000 in
set_option maxHeartbeats 2000000 in
theorem head_any (w : World) : Calls Tryd.prog 4 #[] w fun e w' => e = .returned (.bool true) ∧ Below w.heap.size w w' := by
  obtain ⟨W0, hW0⟩ : ∃ W0, W0 = w.alloc exObj := ⟨_, rfl⟩
  have hb0 : Below w.heap.size w W0 := by rw [hW0]; exact (Below.refl _ _).alloc (Nat.le_refl _) _
  have hs0 : W0.heap.size = w.heap.size + 1 := by rw [hW0]; simp
  have hsl : SlE W0 (some ⟨w.heap.size, 0, none⟩) exL := by
    have hB : Blk W0 w.heap.size 30 (cellsE exL) := by rw [hW0]; exact Blk.new w #[.string ⟨#[97]⟩, .int .u64 5, .bool false, .string ⟨#[]⟩, .string ⟨#[98]⟩, .int .u64 4, .bool true, .string ⟨#[]⟩, .string ⟨#[98]⟩, .int .u64 2, .bool false, .string ⟨#[]⟩, .string ⟨#[99]⟩, .int .u64 9, .bool false, .string ⟨#[]⟩] _
    exact fun k x hx => ⟨_, _, rfl, by omega, fun j v hv => by rw [Nat.zero_add]; exact hB.cell_some (cellsE_get hx j v hv)⟩
  have hlist : ∀ W, Below W0.heap.size W0 W → Calls Tryd.prog 7 #[.slice (some ⟨w.heap.size, 0, none⟩) 4 4] W (NewL exL (some (⟨w.heap.size, 0, none⟩ : Addr) ≠ none) W) := fun W hW =>
    list_any W _ 4 exL (hsl.below' hW) (by decide) (fun h => by cases h)
  have hlive : ∀ W c g seq res, 0 ≤ seq → seq ≤ 72057594037927935 → liveL seq 9 exL [] noStr false = res → CurL W c g exL → Calls Tryd.prog 10 #[.pointer (some ⟨c, 0, none⟩), .string noStr, .string noStr, .int .u64 seq, .int .i64 9] W (LivePost res c W) := fun W c g seq res h0 h1 hr hL => by
    have := live_list W c g noStr seq 9 exL hL hL.glt exOk h0 h1 (by decide) (by decide) (by decide) exSeek (by decide)
    rw [hr] at this
    exact this
  have Hlist := Lib.hid hlist
  have Hlive := Lib.hid hlive
  have HW0 := Lib.hid hW0
  clear hlist hlive hW0 hsl
  go_enter Tryd.func4, Tryd.ntmps4
  go_wp2_with fail
  rw [← HW0.out]
  refine (Hlist.out W0 (Below.refl _ _)).mono ?_
  rintro e w1 ⟨c1, g1, rfl, hc1, hg1, hc1', hL1, hb1, _⟩
  have hs1 := hb1.size
  go_wp2_with fail
  refine (Hlive.out w1 c1 g1 8 _ (by decide) (by decide) ex8 hL1).mono ?_
  rintro e w2 ⟨a2, p2, rfl, hp2, hp2', hsl2, hch2⟩
  have hb2 : Below W0.heap.size W0 w2 := hb1.trans (hch2.toBelow hs1 (fun k hk e => by omega))
  have hs2 := hb2.size
  obtain ⟨d2, o2, rfl, hd2, hr2⟩ := hsl2 0 _ rfl
  go_wp2_with fail
  refine (Hlist.out w2 hb2).mono ?_
  rintro e w3 ⟨c3, g3, rfl, hc3, hg3, hc3', hL3, hb3, _⟩
  have hs3 := hb3.size
  go_wp2_with fail
  refine (Hlive.out w3 c3 g3 3 _ (by decide) (by decide) ex3 hL3).mono ?_
  rintro e w4 ⟨a4, p4, rfl, hp4, hp4', hsl4, hch4⟩
  have hb4 : Below w2.heap.size w2 w4 := hb3.trans (hch4.toBelow hs3 (fun k hk e => by omega))
  obtain ⟨d4, o4, rfl, hd4, hr4⟩ := hsl4 0 _ rfl
  have q2 : w4.cell? ⟨d2, o2, none⟩ = some (.string chA) := by have := rangeAt_below hr2 hb4 hd2 0 _ rfl; simpa using this
  have q4 : w4.cell? ⟨d4, o4, none⟩ = some (.string chB) := by have := hr4 0 _ rfl; simpa using this
  have q5 : w4.cell? ⟨d4, o4 + 1, none⟩ = some (.int .u64 2) := by have := hr4 1 _ rfl; simpa using this
  have hp2i : (1 : Int) ≤ p2 := by have : 1 ≤ p2 := hp2; omega
  have hp4i : (1 : Int) ≤ p4 := by have : 1 ≤ p4 := hp4; omega
  go_wp2
  go_ret
  exact ⟨rfl, hb0.trans ((hb2.trans (hb4.mono hs2)).mono (by omega))⟩
end Go.Proofs.YtnmpiobgdnfmjaaDoor
