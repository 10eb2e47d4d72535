/- The walk of the law StatusTexts. -/
import Derived.Test.YtaknoodgpkdhbaaDoorOf
import Derived.Test.YtaknoodgpkdhbaaDoorLawHolds
import Derived.Deep.RegionHeld3

namespace Go.Proofs.YtaknoodgpkdhbaaDoor
open Go.RowKit Go.Sort

set_option maxRecDepth 100000 in
set_option maxHeartbeats 4000000 in
theorem law_texts (ad fi : Nat → Int) (ao : Option Addr) (n c : Nat) (hts : Nat → Int) (txs : Nat → Nat → Int) (w : World) (hn : n ≤ 9223372036854775807) (hH : Hist w ao n hts txs) (hL : Laid ad fi w) :
    Calls Tryd.prog 3 #[.slice ao n c] w fun e w' => e = .returned (.bool true) ∧ Below w.heap.size w w' := by
  go_enter Tryd.func3, Tryd.ntmps3
  go_wp2_with fail
  refine (head_any ad fi w hL).mono ?_
  rintro e w1 ⟨rfl, hb1⟩
  by_cases h40 : 40 < n
  · have h40' : (40 : Int) < (n : Int) := by omega
    go_wp2
    go_ret
    exact ⟨rfl, hb1⟩
  have h40' : ¬ (40 : Int) < (n : Int) := by omega
  have h2 := hL.h2
  go_wp2
  go_loopw [3, 15] (fun sv i wr => ∃ k : Nat, k ≤ n ∧ i = .int .i64 k ∧ sv = .string ⟨(histL hts txs k).toArray⟩ ∧ Below w.heap.size w wr) (fun _ i _ => n - (intOf i).toNat)
  case atStart => exact ⟨0, by omega, rfl, rfl, hb1⟩
  case round =>
    obtain ⟨k, hk, rfl, rfl, hb⟩ := hrel
    by_cases hkn : k < n
    · have hkn' : (k : Int) < (n : Int) := by omega
      have k0 : 0 ≤ (k : Int) := by omega
      have hs : w.heap.size + 1 ≤ wr.heap.size + 1 := by have := hb.size; omega
      obtain ⟨b, o, ps, rfl, hbb, hrg⟩ := hH.at_ k hkn
      obtain ⟨x, hx⟩ : ∃ x, x = (Value.int .i64 (hts k) :: .int .i64 ps :: lst 32 (u8c (txs k)) : List Value) := ⟨_, rfl⟩
      have hxl : x.length = 34 := by rw [hx]; simp [lst_length]
      have hrx : wr.rangeAt b (o + k * 34) x := by
        intro j v hv
        rw [hb.cell (p := ⟨b, o + k * 34 + j, none⟩) hbb]
        exact hrg j v (by rw [← hx]; exact hv)
      have hszx : (Tryd.prog.info? 27).map (·.size) = some x.length := by rw [hxl]; kernel_rfl
      have honex : x.toArray.all (·.oneCell') = true := all_oneCell_toArray (fun v hv => by
        rw [hx] at hv
        rcases List.mem_cons.1 hv with rfl | hv
        · rfl
        rcases List.mem_cons.1 hv with rfl | hv
        · rfl
        obtain ⟨j, _, rfl⟩ := List.mem_map.1 hv
        rfl)
      have hth : (wr.alloc z34).there wr.heap.size 0 x.toArray.size := by simp only [List.size_toArray]; rw [hxl]; exact z34_there wr
      obtain ⟨W, hW⟩ : ∃ W, W = (wr.alloc z34).setCells wr.heap.size 0 x := ⟨_, rfl⟩
      have hWs : W.heap.size = wr.heap.size + 1 := by rw [hW, size_setCells]; simp
      have hWr : Below wr.heap.size wr W := by rw [hW]; exact below_setCells (Nat.le_refl _) _ _ ((Below.refl _ _).alloc (Nat.le_refl _) _)
      have hrg2 : W.rangeAt wr.heap.size 0 x := by rw [hW]; exact World.rangeAt_setCells_same _ _ _ _ (by rw [hxl]; exact z34_there wr)
      have hc0 : W.cell? ⟨wr.heap.size, 0, none⟩ = some (.int .i64 (hts k)) := by have := hrg2 0 (.int .i64 (hts k)) (by rw [hx]; rfl); simpa using this
      have hrt : W.rangeAt wr.heap.size 2 (lst 32 (u8c (txs k))) := fun j v hv => by
        have := hrg2 (j + 2) v (by rw [hx]; exact hv)
        rw [show 0 + (j + 2) = 2 + j by omega] at this
        exact this
      have HX := Lib.hid hx
      have Hrx := Lib.hid hrx
      have Hszx := Lib.hid hszx
      have Honex := Lib.hid honex
      have Hth := Lib.hid hth
      have HW := Lib.hid hW
      have HWs := Lib.hid hWs
      have Hrt := Lib.hid hrt
      clear hx hxl hrx hszx honex hrg hth hW hWs hrg2 hrt
      obtain ⟨sw, hsw⟩ : ∃ sw : ByteArray, sw = ⟨(histL hts txs k).toArray⟩ := ⟨_, rfl⟩
      have hzw : sw.size ≤ 100 * k := by rw [hsw]; show (histL hts txs k).toArray.size ≤ _; rw [List.size_toArray]; exact histL_length hH.lo k
      rw [← hsw]
      have Hsw := Lib.hid hsw
      clear hsw
      go_wp2_with (first
        | (refine wpList_load_mid rfl 27 (.tmp 17) rfl b (o + k * 34) rfl x _ Hrx.out Tryd.underlying27 rfl Hszx.out ?_)
        | (refine wpList_store_mid rfl 27 (.tmp 5) (.tmp 18) rfl wr.heap.size 0 x.toArray rfl rfl Hth.out (by simpa using Hszx.out) Honex.out ?_; rw [show (wr.alloc z34).setCells wr.heap.size 0 x.toArray.toList = W from HW.out.symm]))
      simp only [Act.put]
      have hWw : Below w.heap.size w W := hb.trans (hWr.mono (by omega))
      have k0 := cell_regrown hc0
      obtain ⟨tl, htl⟩ : ∃ tl, tl = lst 32 (u8c (txs k)) := ⟨_, rfl⟩
      obtain ⟨s1, hs1⟩ : ∃ s1 : ByteArray, s1 = ⟨(textF (txs k) 32).toArray⟩ := ⟨_, rfl⟩
      obtain ⟨s2, hs2⟩ : ∃ s2 : ByteArray, s2 = ⟨(Lib.itoa (hts k)).toArray⟩ := ⟨_, rfl⟩
      have hz1 : s1.size ≤ 64 := by rw [hs1]; show (textF (txs k) 32).toArray.size ≤ 64; rw [List.size_toArray, textF_length]; omega
      have hz2 : s2.size ≤ 100 := by rw [hs2]; show (Lib.itoa (hts k)).toArray.size ≤ 100; rw [List.size_toArray]; have := Lib.itoa_length_le (hts k) (hH.lo k).1 (hH.lo k).2; omega
      have hWs' := HWs.out
      have hc6 : ∀ d os, Calls Tryd.prog 6 #[.agg tl.toArray] (grow (redrawn W d) os) fun e w'' => e = .returned (.string s1) ∧ ∃ p : Regrown, w'' = grow (redrawn W p.d) p.os := by
        intro d os
        rw [htl, hs1]
        exact Calls.regrown_of (text_any (txs k) _ (hH.tx k))
      have hc14 : ∀ d os, Calls Tryd.prog 7 #[.int .i64 (hts k)] (grow (redrawn W d) os) fun e w'' => e = .returned (.string s2) ∧ ∃ p : Regrown, w'' = grow (redrawn W p.d) p.os := by
        intro d os
        rw [hs2]
        exact Calls.regrown_of (digits_any _ (hts k) (Nat.le_refl _) (hH.lo k).1 (hH.lo k).2 _)
      have hrt2 : ∀ w', (∃ p : Regrown, w' = grow (redrawn W p.d) p.os) → w'.rangeAt wr.heap.size 2 tl := by
        rintro w' ⟨p, rfl⟩
        rw [htl]
        intro j v hv
        rw [(below_regrown W p.d p.os).cell (by show wr.heap.size < _; omega)]
        exact Hrt.out j v hv
      have HT : Hid (tl.length = 32) := Lib.hid (by rw [htl]; exact lst_length _ _)
      have Hs1 := Lib.hid hs1
      have Hs2 := Lib.hid hs2
      have Hc6 := Lib.hid hc6
      have Hc14 := Lib.hid hc14
      have Hrt2 := Lib.hid hrt2
      clear htl hs1 hs2 hc6 hc14 hrt2 hWs'
      refine wp_region_quiet_below (by kernel_rfl) (by kernel_rfl) ?_
      iterate 2 (go_big_quiet_step (fail))
      refine wpQuiet_load_mid rfl 25 (.tmp 20) rfl wr.heap.size 2 rfl tl _ Hrt2.out Tryd.underlying25 rfl (by rw [HT.out]; kernel_rfl) ?_
      simp only [Act.put, List.setIfInBounds_toArray, List.set_cons_succ, List.set_cons_zero]
      repeat (go_big_quiet_step ((first | exact Hc6.out _ _ | exact Hc14.out _ _)))
      refine wpQuiet_nil ?_
      intro _ hw'
      obtain ⟨⟨dq, osq⟩, hw''⟩ := hw'
      subst hw''
      go_wp2
      go_roundw
      case rel =>
        refine ⟨k + 1, by omega, by go_num, congrArg Value.string ?_, hWw.trans ((below_regrown W dq osq).mono (by have := HWs.out; omega))⟩
        rw [histL, itemL, Hsw.out, Hs1.out, Hs2.out]
        apply ByteArray.ext
        simp
      case measure => simp [intOf]; omega
    · obtain rfl : k = n := by omega
      have hkn' : ¬ (k : Int) < (k : Int) := by omega
      obtain ⟨l, hl⟩ : ∃ l, l = histL hts txs k := ⟨_, rfl⟩
      rw [← hl]
      have Hl := Lib.hid hl
      clear hl
      go_wp2_with fail
      refine (of_any ad fi ao k c hts txs wr (by omega) (hH.below hb (Nat.le_refl _)) (hL.below hb h2)).mono ?_
      rintro e w2 ⟨rfl, hb2⟩
      rw [← Hl.out]
      obtain ⟨t, htt⟩ : ∃ t, t = lst 32 (u8c (ofF ad fi l)) := ⟨_, rfl⟩
      unfold agg32
      rw [← htt]
      obtain ⟨z1, fz1⟩ := zeros32 w2 (fun _ => 0)
      have htl : t.length = 32 := by rw [htt]; exact lst_length _ _
      have hth : (w2.alloc z32).there w2.heap.size 0 t.toArray.size := by simp only [List.size_toArray]; rw [htl]; exact z1.there fz1
      have hszt : (Tryd.prog.info? 25).map (·.size) = some t.length := by rw [htl]; kernel_rfl
      have honet : t.toArray.all (·.oneCell') = true := by rw [htt]; exact one_all fun _ => rfl
      obtain ⟨X, hX⟩ : ∃ X, X = (w2.alloc z32).setCells w2.heap.size 0 t := ⟨_, rfl⟩
      have hbX : Below w2.heap.size w2 X := by rw [hX]; exact below_setCells (Nat.le_refl _) _ _ ((Below.refl _ _).alloc (Nat.le_refl _) _)
      have hsX : X.heap.size = w2.heap.size + 1 := by rw [hX, size_setCells]; simp
      have r6 : Row X w2.heap.size 0 32 (u8c (ofF ad fi l)) := by rw [hX, htt]; exact z1.setCells fz1 _
      have hr6 : X.rangeAt w2.heap.size 0 t := by rw [htt]; exact r6.range
      have Htt := Lib.hid htt
      have Hth := Lib.hid hth
      have Hszt := Lib.hid hszt
      have Honet := Lib.hid honet
      have HX := Lib.hid hX
      have Hr6 := Lib.hid hr6
      clear hth hszt honet hX hr6 htl htt
      by_cases h0 : k = 0
      · subst h0
        go_upto_region 13 with (refine wpList_store_mid rfl 25 (.tmp 6) (.tmp 34) rfl w2.heap.size 0 t.toArray rfl rfl Hth.out (by simpa using Hszt.out) Honet.out ?_; rw [show (w2.alloc z32).setCells w2.heap.size 0 t.toArray.toList = X from HX.out.symm])
        obtain ⟨zs, hzs⟩ : ∃ zs, zs = lst 32 (u8c zf) := ⟨_, rfl⟩
        have hz : ∀ W, (zeroValue 25).run Tryd.prog W = .ok (.agg zs.toArray) W := fun W => by rw [hzs]; kernel_rfl
        have hl0 : l = [] := Hl.out
        have heq : ∀ W', (binOp .eql 25 (.agg t.toArray) (.agg zs.toArray)).run Tryd.prog W' = .ok (.bool true) W' := fun W' => by
          rw [Htt.out, hzs, hl0, eql_hash]
          rfl
        have hbX' : Below w.heap.size w X := (hb.trans (hb2.mono hb.size)).trans (hbX.mono (by have := hb.size; have := hb2.size; omega))
        have hcall : Calls Tryd.prog 9 #[.slice ao 0 c] X fun e w' => e = .returned (.string ⟨#[]⟩) ∧ Below X.heap.size X w' :=
          stext_any ao 0 c hts txs X (by omega) (hH.below hbX' (Nat.le_refl _)) (by have := hbX'.size; omega) (hL.below hbX' h2).pow
        have Heq := Lib.hid heq
        have Hcall := Lib.hid hcall
        clear hzs heq hcall
        go_wp2_with (first
          | (refine wpList_load_guarded rfl 25 (.tmp 6) rfl w2.heap.size 0 rfl t _ Hr6.out Tryd.underlying25 rfl Hszt.out ?_)
          | (refine wpList_eql_guarded rfl 25 25 (.tmp 42) (.tmp 43) rfl t.toArray zs.toArray rfl rfl (by kernel_rfl) _ (Heq.out _) ?_))
        refine Hcall.out.mono ?_
        rintro e w4 ⟨rfl, hb4⟩
        go_wp2
        go_ret
        exact ⟨rfl, hbX'.trans (hb4.mono hbX'.size)⟩
      · have h0' : ((k : Int) == 0) = false := by simp; omega
        go_upto_region 14 with (refine wpList_store_mid rfl 25 (.tmp 6) (.tmp 34) rfl w2.heap.size 0 t.toArray rfl rfl Hth.out (by simpa using Hszt.out) Honet.out ?_; rw [show (w2.alloc z32).setCells w2.heap.size 0 t.toArray.toList = X from HX.out.symm])
        have hdk : decide (0 < k) = true := decide_eq_true (by omega)
        have hbX' : Below w.heap.size w X := (hb.trans (hb2.mono hb.size)).trans (hbX.mono (by have := hb.size; have := hb2.size; omega))
        have hne : l ≠ [] := by rw [Hl.out]; exact histL_ne (by omega)
        have hpos : 0 < l.length := List.length_pos_iff.2 hne
        have hlen : l.length ≤ 100000 := by rw [Hl.out]; have := histL_length (txs := txs) hH.lo k; omega
        have hcall : ∀ W', (Below X.heap.size X W' ∧ W'.rangeAt w2.heap.size 0 t) → Calls Tryd.prog 9 #[.slice ao k c] W' fun e w' => e = .returned (.string ⟨l.toArray⟩) ∧ Below X.heap.size X w' := fun W' hW' => by
          have hW2 := hbX'.trans (hW'.1.mono hbX'.size)
          rw [Hl.out]
          refine (stext_any ao k c hts txs W' (by omega) (hH.below hW2 (Nat.le_refl _)) (by have := hW2.size; omega) (hL.below hW2 h2).pow).mono ?_
          rintro e w' ⟨rfl, hb⟩
          exact ⟨rfl, hW'.1.trans (hb.mono hW'.1.size)⟩
        have hsum : ∀ W' c' B, (Below X.heap.size X W' ∧ W'.rangeAt w2.heap.size 0 t) → l.length ≤ c' → B < W'.heap.size → (∀ j, j < l.length → W'.cell? ⟨B, 0 + j, none⟩ = some (.int .u8 (bsF l j))) →
            Calls Tryd.prog 10 #[.slice (some ⟨B, 0, none⟩) l.length c'] W' fun e w' => e = .returned (.agg t.toArray) ∧ Below X.heap.size X w' := fun W' c' B hW' hc' hB hcs => by
          have hW2 := hbX'.trans (hW'.1.mono hbX'.size)
          have hT : Tabs ad fi W' := hL.tabs.below hW2 (by omega)
          have := sum_any (bsF l) fi ad B 0 l.length c' W' hB hpos hc' (by omega) hT.h1 hT.hA hT.hF hcs (bsF_bd l)
          rw [Htt.out, ofF, if_neg hne]
          refine this.mono ?_
          rintro e w' ⟨rfl, hb⟩
          exact ⟨rfl, hW'.1.trans (hb.mono hW'.1.size)⟩
        have heq : ∀ W', (binOp .eql 25 (.agg t.toArray) (.agg t.toArray)).run Tryd.prog W' = .ok (.bool true) W' := fun W' => by
          rw [Htt.out, eql_hash]
          simp [heqB]
        have hgd : ∀ (x y : Operand) (W' : World), (eqGuard .eql 25 x y (.agg t.toArray) (.agg t.toArray)).run Tryd.prog W' = .ok () W' := fun x y W' => run_eqGuard_agg W' .eql 25 x y _ _ (by kernel_rfl)
        have hrange : ∀ W', Below X.heap.size X W' → W'.rangeAt w2.heap.size 0 t := fun W' hW' j v hv => (hW'.cell (show w2.heap.size < _ by omega)).trans (Hr6.out j v hv)
        have hkeep : ∀ W', Below X.heap.size X W' → (Below X.heap.size X W' ∧ W'.rangeAt w2.heap.size 0 t) := fun W' h => ⟨h, hrange W' h⟩
        have hu25 := Tryd.underlying25
        have hsz25 := Hszt.out
        have hne' : (l == []) = false := by simp [hne]
        clear hrange hne hne' hlen
        go_region_held (fun w' => Below X.heap.size X w' ∧ w'.rangeAt w2.heap.size 0 t)
          ((first | exact hkeep _ ((Below.refl _ _).drew) | exact hkeep _ (by assumption)))
          ((first
            | (go_at_call 9; (with_reducible refine (hcall _ (by assumption)).mono ?_); rintro e w4 ⟨rfl, hb4⟩; obtain ⟨W5, c5, hcv, hc5, hb5, hs5, hcs5⟩ := conv_bytes w4 l; have hb5' : Below X.heap.size X W5 := hb4.trans (hb5.mono hb4.size); have Hcs5 := Lib.hid hcs5; clear hcs5)
            | (go_at_call 10; (with_reducible refine (hsum _ _ _ (by assumption) hc5 (by omega) Hcs5.out).mono ?_); rintro e w6 ⟨rfl, hb6⟩)))
        go_wp2
        go_ret
        exact ⟨rfl, hbX'.trans (hb6.mono hbX'.size)⟩
end Go.Proofs.YtaknoodgpkdhbaaDoor
