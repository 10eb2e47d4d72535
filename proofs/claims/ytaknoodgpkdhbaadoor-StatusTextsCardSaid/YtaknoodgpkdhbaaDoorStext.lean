/- The contract of status.Text. -/
import Derived.Test.YtaknoodgpkdhbaaDoorText
import Derived.Test.YtaknoodgpkdhbaaDoorHolds
import Derived.Lib.ItoaLen
import Derived.WalkSmall

namespace Go.Proofs.YtaknoodgpkdhbaaDoor
open Go.RowKit Go.Sort

/-- a builder of the call's own stands where nothing below the heap's end turns -/
theorem builder_below {T e : TypeId} {B b : Nat} {p : Value} {bs : List Value} {w w' : World} (h : Lib.BuilderAt T e B b p bs w) (hb : Below w.heap.size w w') : Lib.BuilderAt T e B b p bs w' := by
  obtain ⟨h1, v, h2, h3, h4⟩ := h
  have hlt : b < w.heap.size := (Array.getElem?_eq_some_iff.1 h2).1
  exact ⟨h1, v, (hb.block b hlt).trans h2, h3.kept (row := none) ⟨hb.os, hb.tape, hb.output, hb.size, fun k hk _ => hb.block k hk⟩ (by
    cases h : v.ownBlock with
    | none => exact .inl rfl
    | some k => exact .inr (by simp)), h4⟩

/-- what stands in memory of a history -/
structure Hist (w : World) (ao : Option Addr) (n : Nat) (hts : Nat → Int) (txs : Nat → Nat → Int) : Prop where
  at_ : ∀ i, i < n → ∃ b o ps, ao = some ⟨b, o, none⟩ ∧ b < w.heap.size ∧ w.rangeAt b (o + i * 34) (.int .i64 (hts i) :: .int .i64 ps :: lst 32 (u8c (txs i)))
  lo : ∀ i, -9223372036854775808 ≤ hts i ∧ hts i ≤ 9223372036854775807
  tx : ∀ i j, 0 ≤ txs i j ∧ txs i j ≤ 255

/-- the text of a history's first k items -/
def itemL (h : Int) (t : Nat → Int) : List UInt8 := textF t 32 ++ [58] ++ Lib.itoa h ++ [58]
def histL (hts : Nat → Int) (txs : Nat → Nat → Int) : Nat → List UInt8
  | 0 => []
  | k + 1 => histL hts txs k ++ itemL (hts k) (txs k)

abbrev z34 : Obj := .cells #[Value.int IntKind.i64 0, Value.int IntKind.i64 0, Value.int IntKind.u8 0, Value.int IntKind.u8 0, Value.int IntKind.u8 0, Value.int IntKind.u8 0, Value.int IntKind.u8 0, Value.int IntKind.u8 0, Value.int IntKind.u8 0, Value.int IntKind.u8 0, Value.int IntKind.u8 0, Value.int IntKind.u8 0, Value.int IntKind.u8 0, Value.int IntKind.u8 0, Value.int IntKind.u8 0, Value.int IntKind.u8 0, Value.int IntKind.u8 0, Value.int IntKind.u8 0, Value.int IntKind.u8 0, Value.int IntKind.u8 0, Value.int IntKind.u8 0, Value.int IntKind.u8 0, Value.int IntKind.u8 0, Value.int IntKind.u8 0, Value.int IntKind.u8 0, Value.int IntKind.u8 0, Value.int IntKind.u8 0, Value.int IntKind.u8 0, Value.int IntKind.u8 0, Value.int IntKind.u8 0, Value.int IntKind.u8 0, Value.int IntKind.u8 0, Value.int IntKind.u8 0, Value.int IntKind.u8 0] 27
theorem z34_there (w : World) : (w.alloc z34).there w.heap.size 0 34 := by
  intro j hj
  refine ⟨?_, World.frozen?_alloc_new w _ _ _⟩
  rw [Nat.zero_add, World.cell?_alloc_new]
  match j, hj with
  | 0, _ => rfl
  | 1, _ => rfl
  | 2, _ => rfl
  | 3, _ => rfl
  | 4, _ => rfl
  | 5, _ => rfl
  | 6, _ => rfl
  | 7, _ => rfl
  | 8, _ => rfl
  | 9, _ => rfl
  | 10, _ => rfl
  | 11, _ => rfl
  | 12, _ => rfl
  | 13, _ => rfl
  | 14, _ => rfl
  | 15, _ => rfl
  | 16, _ => rfl
  | 17, _ => rfl
  | 18, _ => rfl
  | 19, _ => rfl
  | 20, _ => rfl
  | 21, _ => rfl
  | 22, _ => rfl
  | 23, _ => rfl
  | 24, _ => rfl
  | 25, _ => rfl
  | 26, _ => rfl
  | 27, _ => rfl
  | 28, _ => rfl
  | 29, _ => rfl
  | 30, _ => rfl
  | 31, _ => rfl
  | 32, _ => rfl
  | 33, _ => rfl
  | j + 34, h => omega

theorem builder_is_below {T e : TypeId} {B b : Nat} {bs : List Value} {w w' : World} (h : Lib.IsBuilder T e B b bs w) (hb : Below w.heap.size w w') : Lib.IsBuilder T e B b bs w' :=
  h.imp (fun h => builder_below h hb) (fun h => builder_below h hb)

theorem below_grow (w : World) (k : Nat) (os : Array Obj) : Below w.heap.size w (grow (w.drewN k) os) := below_regrown w (w.drawn + k) os
theorem itemL_length (h : Int) (t : Nat → Int) (h0 : -9223372036854775808 ≤ h) (h1 : h ≤ 9223372036854775807) : (itemL h t).length ≤ 100 := by
  have := Lib.itoa_length_le h h0 h1
  simp [itemL, textF_length]; omega
theorem histL_length {hts : Nat → Int} {txs : Nat → Nat → Int} (hl : ∀ i, -9223372036854775808 ≤ hts i ∧ hts i ≤ 9223372036854775807) (k : Nat) : (histL hts txs k).length ≤ 100 * k := by
  induction k with
  | zero => simp [histL]
  | succ k ih =>
    have := itemL_length (hts k) (txs k) (hl k).1 (hl k).2
    simp only [histL, List.length_append]; omega

set_option maxRecDepth 100000 in
set_option maxHeartbeats 1000000 in
theorem stext_any (ao : Option Addr) (n c : Nat) (hts : Nat → Int) (txs : Nat → Nat → Int) (w : World) (hn : n ≤ 1000) (hH : Hist w ao n hts txs) (h2 : 2 < w.heap.size) (htab : Lib.TabIs Tryd.prog w "internal/strconv.uint64pow10" .u64 Lib.pow10Tab) :
    Calls Tryd.prog 9 #[.slice ao n c] w fun e w' => e = .returned (.string ⟨(histL hts txs n).toArray⟩) ∧ Below w.heap.size w w' := by
  go_enter Tryd.func9, Tryd.ntmps9
  go_wp2
  go_loopw [8] (fun i wr => ∃ k : Nat, k ≤ n ∧ i = .int .i64 k ∧ Lib.IsBuilder 45 5 w.heap.size w.heap.size (Lib.byteCells (histL hts txs k)) wr ∧ Below w.heap.size w wr ∧ w.heap.size + 1 ≤ wr.heap.size) (fun i _ => n - (intOf i).toNat)
  case atStart => exact ⟨0, by omega, rfl, Lib.fresh_isBuilder 45 5 w, (Below.refl _ _).alloc (Nat.le_refl _) _, by simp⟩
  case round =>
    obtain ⟨k, hk, rfl, hbd, hb, hs⟩ := hrel
    by_cases hkn : k < n
    · have hkn' : (k : Int) < (n : Int) := by omega
      have k0 : 0 ≤ (k : Int) := by omega
      obtain ⟨b, o, ps, rfl, hbb, hrg⟩ := hH.at_ k hkn
      obtain ⟨x, hx⟩ : ∃ x, x = (Value.int .i64 (hts k) :: .int .i64 ps :: lst 32 (u8c (txs k)) : List Value) := ⟨_, rfl⟩
      have hxl : x.length = 34 := by rw [hx]; simp [lst_length]
      have hrx : wr.rangeAt b (o + k * 34) x := by
        intro j v hv
        rw [hb.cell (p := ⟨b, o + k * 34 + j, none⟩) hbb]
        exact hrg j v (by rw [← hx]; exact hv)
      have hszx : (Tryd.prog.info? 27).map (·.size) = some x.length := by rw [hxl]; kernel_rfl
      have honex : x.toArray.all (·.oneCell') = true := all_oneCell_toArray (fun v hv => by
        rw [hx] at hv
        rcases List.mem_cons.1 hv with rfl | hv
        · rfl
        rcases List.mem_cons.1 hv with rfl | hv
        · rfl
        obtain ⟨j, _, rfl⟩ := List.mem_map.1 hv
        rfl)
      have hth : (wr.alloc z34).there wr.heap.size 0 x.toArray.size := by simp only [List.size_toArray]; rw [hxl]; exact z34_there wr
      obtain ⟨W, hW⟩ : ∃ W, W = (wr.alloc z34).setCells wr.heap.size 0 x := ⟨_, rfl⟩
      have hWs : W.heap.size = wr.heap.size + 1 := by rw [hW, size_setCells]; simp
      have hWr : Below wr.heap.size wr W := by rw [hW]; exact below_setCells (Nat.le_refl _) _ _ ((Below.refl _ _).alloc (Nat.le_refl _) _)
      have hrg2 : W.rangeAt wr.heap.size 0 x := by rw [hW]; exact World.rangeAt_setCells_same _ _ _ _ (by rw [hxl]; exact z34_there wr)
      have hc0 : W.cell? ⟨wr.heap.size, 0, none⟩ = some (.int .i64 (hts k)) := by have := hrg2 0 (.int .i64 (hts k)) (by rw [hx]; rfl); simpa using this
      have hrt : W.rangeAt wr.heap.size 2 (lst 32 (u8c (txs k))) := fun j v hv => by
        have := hrg2 (j + 2) v (by rw [hx]; exact hv)
        rw [show 0 + (j + 2) = 2 + j by omega] at this
        exact this
      have HX := Lib.hid hx
      have Hrx := Lib.hid hrx
      have Hszx := Lib.hid hszx
      have Honex := Lib.hid honex
      have Hth := Lib.hid hth
      have HW := Lib.hid hW
      have HWs := Lib.hid hWs
      have Hrt := Lib.hid hrt
      clear hx hxl hrx hszx honex hrg hth hW hWs hrg2 hrt
      go_wp2_with (first
        | (refine wpList_load_mid rfl 27 (.tmp 10) rfl b (o + k * 34) rfl x _ Hrx.out Tryd.underlying27 rfl Hszx.out ?_)
        | (refine wpList_store_mid rfl 27 (.tmp 5) (.tmp 11) rfl wr.heap.size 0 x.toArray rfl rfl Hth.out (by simpa using Hszx.out) Honex.out ?_; rw [show (wr.alloc z34).setCells wr.heap.size 0 x.toArray.toList = W from HW.out.symm]))
      simp only [Act.put]
      have hWw : Below w.heap.size w W := hb.trans (hWr.mono (by omega))
      have k0 := cell_regrown hc0
      obtain ⟨tl, htl⟩ : ∃ tl, tl = lst 32 (u8c (txs k)) := ⟨_, rfl⟩
      obtain ⟨s1, hs1⟩ : ∃ s1 : ByteArray, s1 = ⟨(textF (txs k) 32).toArray⟩ := ⟨_, rfl⟩
      obtain ⟨s2, hs2⟩ : ∃ s2 : ByteArray, s2 = ⟨(Lib.itoa (hts k)).toArray⟩ := ⟨_, rfl⟩
      have hz1 : s1.size ≤ 64 := by rw [hs1]; show (textF (txs k) 32).toArray.size ≤ 64; rw [List.size_toArray, textF_length]; omega
      have hz2 : s2.size ≤ 100 := by rw [hs2]; show (Lib.itoa (hts k)).toArray.size ≤ 100; rw [List.size_toArray]; have := Lib.itoa_length_le (hts k) (hH.lo k).1 (hH.lo k).2; omega
      have hWs' := HWs.out
      have hc6 : ∀ d os, Calls Tryd.prog 6 #[.agg tl.toArray] (grow (redrawn W d) os) fun e w'' => e = .returned (.string s1) ∧ ∃ p : Regrown, w'' = grow (redrawn W p.d) p.os := by
        intro d os
        rw [htl, hs1]
        exact Calls.regrown_of (text_any (txs k) _ (hH.tx k))
      have hc14 : ∀ d os, Calls Tryd.prog 14 #[.int .i64 (hts k)] (grow (redrawn W d) os) fun e w'' => e = .returned (.string s2) ∧ ∃ p : Regrown, w'' = grow (redrawn W p.d) p.os := by
        intro d os
        rw [hs2]
        refine Calls.regrown_of ((Tryd.strconv_Itoa (hts k) (hH.lo k).1 (hH.lo k).2 _ ?_).mono ?_)
        · exact var?_below (hWw.trans ((below_regrown W d os).mono (by omega))) (by kernel_rfl) (by exact h2) htab
        · rintro e w'' ⟨rfl, k, os', rfl⟩
          exact ⟨rfl, below_grow _ k os'⟩
      have hrt2 : ∀ w', (∃ p : Regrown, w' = grow (redrawn W p.d) p.os) → w'.rangeAt wr.heap.size 2 tl := by
        rintro w' ⟨p, rfl⟩
        rw [htl]
        intro j v hv
        rw [(below_regrown W p.d p.os).cell (by show wr.heap.size < _; omega)]
        exact Hrt.out j v hv
      have HT : Hid (tl.length = 32) := Lib.hid (by rw [htl]; exact lst_length _ _)
      have Hs1 := Lib.hid hs1
      have Hs2 := Lib.hid hs2
      have Hc6 := Lib.hid hc6
      have Hc14 := Lib.hid hc14
      have Hrt2 := Lib.hid hrt2
      clear htl hs1 hs2 hc6 hc14 hrt2 hWs'
      refine wp_region_quiet_tail (fun w' => ∃ p : Regrown, w' = grow (redrawn W p.d) p.os) 9 (by kernel_rfl) (by kernel_rfl) ⟨⟨W.drawn + 1, #[]⟩, by rw [grow_empty]; rfl⟩ ?_
      simp only [List.take_succ_cons, List.take_zero, List.drop_succ_cons, List.drop_zero]
      iterate 1 (go_big_quiet_step (fail))
      refine wpQuiet_load_mid rfl 25 (.tmp 12) rfl wr.heap.size 2 rfl tl _ Hrt2.out Tryd.underlying25 rfl (by rw [HT.out]; kernel_rfl) ?_
      simp only [Act.put, List.setIfInBounds_toArray, List.set_cons_succ, List.set_cons_zero]
      repeat (go_big_quiet_step ((first | exact Hc6.out _ _ | exact Hc14.out _ _)))
      refine wpQuiet_nil ?_
      intro _ hw'
      obtain ⟨⟨dq, osq⟩, hw''⟩ := hw'
      subst hw''
      have hbq := below_regrown W dq osq
      have hbd2 : Lib.IsBuilder 45 5 w.heap.size w.heap.size (Lib.byteCells (histL hts txs k)) (grow (redrawn W dq) osq) := builder_is_below (builder_is_below hbd hWr) hbq
      have hll := histL_length (txs := txs) hH.lo k
      generalize grow (redrawn W dq) osq = w3 at *
      have hw3 : Below w.heap.size w w3 := hWw.trans (hbq.mono (by have := HWs.out; omega))
      clear k0
      go_wp2_with fail
      refine (Tryd.Builder_WriteString w.heap.size w.heap.size _ _ w3 hbd2 ?_ hw3.size).mono ?_
      · have e1 : (ByteArray.mk #[58]).size = 1 := rfl
        rw [Lib.byteCells_length]; simp; omega
      rintro e w4 ⟨rfl, hbd4, hb4⟩
      have hbd5 : Lib.IsBuilder 45 5 w.heap.size w.heap.size (Lib.byteCells (histL hts txs (k + 1))) w4 := by
        refine .inr ?_
        have e : Lib.byteCells (histL hts txs (k + 1)) = Lib.byteCells (histL hts txs k) ++ Lib.strCells (s1 ++ ⟨#[58]⟩ ++ s2 ++ ⟨#[58]⟩) := by
          rw [histL, Lib.byteCells_append, itemL, Hs1.out, Hs2.out]
          simp [Lib.strCells, Lib.byteCells]
        rw [e]
        exact hbd4
      have hw4 : Below w.heap.size w w4 := hw3.trans hb4
      clear hbd4 hbd2 hbd
      go_wp2
      go_roundw
      case rel => exact ⟨k + 1, by omega, by go_num, hbd5, hw4, by have := hb4.size; have := hw3.size; have := hbq.size; have := HWs.out; omega⟩
      case measure => simp [intOf]; omega
    · obtain rfl : k = n := by omega
      go_wp2_with fail
      refine (Tryd.Builder_String_any w.heap.size w.heap.size (histL hts txs k) wr hbd (by omega)).mono ?_
      rintro e w4 ⟨rfl, hb4⟩
      go_wp2
      go_ret
      exact ⟨rfl, hb.trans hb4⟩
end Go.Proofs.YtaknoodgpkdhbaaDoor
