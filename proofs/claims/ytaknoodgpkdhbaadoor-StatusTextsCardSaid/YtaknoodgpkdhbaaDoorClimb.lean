/- The contract of block.Climb. -/
import Derived.Test.YtaknoodgpkdhbaaDoorPair

namespace Go.Proofs.YtaknoodgpkdhbaaDoor
open Go.RowKit

/-- the digest and the place behind k steps up -/
def upF (ad fi : Nat → Int) (br : Nat → Nat → Int) (f : Nat → Int) (p : Int) : Nat → (Nat → Int) × Int
  | 0 => (f, p)
  | k + 1 => ((if bits BinOp.and IntKind.i64 (upF ad fi br f p k).2 1 = 1 then pairF ad fi (br k) (upF ad fi br f p k).1 else pairF ad fi (upF ad fi br f p k).1 (br k)), (upF ad fi br f p k).2 / 2)

theorem pairF_bd (ad fi f g : Nat → Int) : ∀ j, 0 ≤ pairF ad fi f g j ∧ pairF ad fi f g j ≤ 255 := shaF_bd _ _ _ _
theorem upF_bd {ad fi : Nat → Int} {br : Nat → Nat → Int} {f : Nat → Int} {p : Int} (hf : ∀ j, 0 ≤ f j ∧ f j ≤ 255) (k : Nat) : ∀ j, 0 ≤ (upF ad fi br f p k).1 j ∧ (upF ad fi br f p k).1 j ≤ 255 := by
  cases k with
  | zero => exact hf
  | succ k =>
    intro j
    show 0 ≤ (if _ then _ else _ : Nat → Int) j ∧ (if _ then _ else _ : Nat → Int) j ≤ 255
    split <;> exact pairF_bd _ _ _ _ j

set_option maxRecDepth 100000 in
set_option maxHeartbeats 1000000 in
theorem climb_any (f fi ad : Nat → Int) (br : Nat → Nat → Int) (p : Int) (ao : Option Addr) (n c : Nat) (w : World) (hT : Tabs ad fi w) (hf : ∀ j, 0 ≤ f j ∧ f j ≤ 255) (hbr : ∀ i j, 0 ≤ br i j ∧ br i j ≤ 255)
   (hn : n ≤ 140737488351232) (hsl : ∀ i, i < n → ∃ b o, ao = some ⟨b, o, none⟩ ∧ b < w.heap.size ∧ Row w b (o + i * 32) 32 (u8c (br i))) :
    Calls Tryd.prog 11 #[agg32 f, .int .i64 p, .slice ao n c] w fun e w' => e = .returned (agg32 (upF ad fi br f p n).1) ∧ Below w.heap.size w w' := by
  obtain ⟨l, hl⟩ : ∃ l, l = lst 32 (u8c f) := ⟨_, rfl⟩
  unfold agg32
  rw [← hl]
  have Hl := Lib.hid hl
  clear hl
  go_enter Tryd.func11, Tryd.ntmps11
  go_wp2
  go_loopw [1, 11] (fun pv i wr => ∃ k : Nat, k ≤ n ∧ i = .int .i64 k ∧ pv = .int .i64 (upF ad fi br f p k).2 ∧ Row wr w.heap.size 0 32 (u8c (upF ad fi br f p k).1) ∧ Free wr w.heap.size ∧
     Row wr (w.heap.size + 1) 0 32 (u8c (outF (fun _ => 0) 0)) ∧ Free wr (w.heap.size + 1) ∧ Below w.heap.size w wr ∧ w.heap.size + 2 ≤ wr.heap.size) (fun _ i _ => n - (intOf i).toNat)
  case atStart =>
    refine ⟨0, by omega, rfl, rfl, ?_, ?_, ?_, ?_, ((Below.refl _ _).alloc (Nat.le_refl _) _).alloc (by simp) _, by simp⟩
    · exact (Row.new w l.toArray 25 (u8c f) 32 (fun j hj => by rw [Hl.out]; simpa using lst_get hj)).alloc (by simp) _
    · exact (Free.new w _ _).alloc (by simp) _
    · have := (zeros32 (w.alloc (.cells l.toArray 25)) (fun _ => 0)).1; simpa using this
    · have := (zeros32 (w.alloc (.cells l.toArray 25)) (fun _ => 0)).2; simpa using this
  case round =>
    obtain ⟨k, hk, rfl, rfl, r1, f1, r2, f2, hb, hs⟩ := hrel
    have Hnx : Hid (upF ad fi br f p (k + 1) = ((if bits BinOp.and IntKind.i64 (upF ad fi br f p k).2 1 = 1 then pairF ad fi (br k) (upF ad fi br f p k).1 else pairF ad fi (upF ad fi br f p k).1 (br k)), (upF ad fi br f p k).2 / 2)) := Lib.hid rfl
    have Hbd : Hid (∀ j, 0 ≤ (upF ad fi br f p k).1 j ∧ (upF ad fi br f p k).1 j ≤ 255) := Lib.hid (upF_bd hf k)
    obtain ⟨h, hhe⟩ : ∃ h, h = (upF ad fi br f p k).1 := ⟨_, rfl⟩
    obtain ⟨q, hqe⟩ : ∃ q, q = (upF ad fi br f p k).2 := ⟨_, rfl⟩
    rw [← hhe, ← hqe] at Hnx
    rw [← hhe] at Hbd r1
    rw [← hqe]
    have Hhe := Lib.hid hhe
    clear hhe hqe
    by_cases hkn : k < n
    · have hkn' : (k : Int) < (n : Int) := by omega
      have k0 : 0 ≤ (k : Int) := by omega
      obtain ⟨b, o, rfl, hbb, hrow⟩ := hsl k hkn
      obtain ⟨x, hx⟩ : ∃ x, x = lst 32 (u8c (br k)) := ⟨_, rfl⟩
      obtain ⟨y, hy⟩ : ∃ y, y = lst 32 (u8c h) := ⟨_, rfl⟩
      have hxl : x.length = 32 := by rw [hx]; exact lst_length _ _
      have hyl : y.length = 32 := by rw [hy]; exact lst_length _ _
      have HX := Lib.hid hx
      have HY := Lib.hid hy
      have hrx : wr.rangeAt b (o + k * 32) x := by rw [hx]; exact (hrow.below hb hbb).range
      have Hrx := Lib.hid hrx
      have hszx : (Tryd.prog.info? 25).map (·.size) = some x.length := by rw [hxl]; kernel_rfl
      have hszy : (Tryd.prog.info? 25).map (·.size) = some y.length := by rw [hyl]; kernel_rfl
      have Hszx := Lib.hid hszx
      have Hszy := Lib.hid hszy
      have honex : x.toArray.all (·.oneCell') = true := by rw [hx]; exact one_all fun _ => rfl
      have Honex := Lib.hid honex
      obtain ⟨z1, fz1⟩ := zeros32 wr (fun _ => 0)
      have hthx : (wr.alloc z32).there wr.heap.size 0 x.toArray.size := by simp only [List.size_toArray]; rw [hxl]; exact z1.there fz1
      have Hthx := Lib.hid hthx
      obtain ⟨W, hW⟩ : ∃ W, W = (wr.alloc z32).setCells wr.heap.size 0 x := ⟨_, rfl⟩
      have hWs : W.heap.size = wr.heap.size + 1 := by rw [hW, size_setCells]; simp
      have hWb : Below w.heap.size w W := by rw [hW]; exact below_setCells (by omega) _ _ (hb.alloc (by omega) _)
      have hWx : W.rangeAt wr.heap.size 0 x := by rw [hW, hx]; exact (z1.setCells fz1 _).range
      have hW1 : Row W w.heap.size 0 32 (u8c h) := by rw [hW]; exact (r1.alloc (by omega) _).setCells_other (by omega) _
      have hF1 : Free W w.heap.size := by rw [hW]; exact (f1.alloc (by omega) _).setCells _ _ _
      have hW2 : Row W (w.heap.size + 1) 0 32 (u8c (outF (fun _ => 0) 0)) := by rw [hW]; exact (r2.alloc (by omega) _).setCells_other (by omega) _
      have hF2 : Free W (w.heap.size + 1) := by rw [hW]; exact (f2.alloc (by omega) _).setCells _ _ _
      have hWy : W.rangeAt w.heap.size 0 y := by rw [hy]; exact hW1.range
      have HWx := Lib.hid hWx
      have HWy := Lib.hid hWy
      have HWs := Lib.hid hWs
      have HW := Lib.hid hW
      clear hx hy hxl hyl hrx hszx hszy honex hthx hWs hWx hWy hW
      by_cases hc : bits BinOp.and IntKind.i64 q 1 = 1
      · have hc' : (bits BinOp.and IntKind.i64 q 1 == 1) = true := by simp [hc]
        have Hc := Lib.hid hc
        clear hc
        go_wp2_with (first
          | (refine wpList_load_mid rfl 25 (.tmp 13) rfl b (o + k * 32) rfl x _ Hrx.out Tryd.underlying25 rfl Hszx.out ?_)
          | (refine wpList_store_mid rfl 25 (.tmp 8) (.tmp 14) rfl wr.heap.size 0 x.toArray rfl rfl Hthx.out (by simpa using Hszx.out) Honex.out ?_; rw [show (wr.alloc z32).setCells wr.heap.size 0 x.toArray.toList = W from HW.out.symm])
          | (refine wpList_load_mid rfl 25 (.tmp 8) rfl wr.heap.size 0 rfl x _ HWx.out Tryd.underlying25 rfl Hszx.out ?_)
          | (refine wpList_load_mid rfl 25 (.tmp 3) rfl w.heap.size 0 rfl y _ HWy.out Tryd.underlying25 rfl Hszy.out ?_))
        rw [HX.out, HY.out]
        refine (pair_any (br k) h fi ad W (hT.below hWb hT.h1) (hbr k) (Hbd.out)).mono ?_
        rintro e w2 ⟨rfl, hb2⟩
        obtain ⟨z, hz⟩ : ∃ z, z = lst 32 (u8c (pairF ad fi (br k) h)) := ⟨_, rfl⟩
        have hzl : z.length = 32 := by rw [hz]; exact lst_length _ _
        unfold agg32
        rw [← hz]
        have hWs := HWs.out
        have ry := hW1.below hb2 (by omega)
        have fy := hF1.below hb2 (by omega)
        have hth : w2.there w.heap.size 0 z.toArray.size := by simp only [List.size_toArray]; rw [hzl]; exact ry.there fy
        have hsz : (Tryd.prog.info? 25).map (·.size) = some z.length := by rw [hzl]; kernel_rfl
        have hone : z.toArray.all (·.oneCell') = true := by rw [hz]; exact one_all fun _ => rfl
        have Hz := Lib.hid hz
        have Hth := Lib.hid hth
        have Hsz := Lib.hid hsz
        have Hone := Lib.hid hone
        clear hz hzl hth hsz hone hWs
        go_wp2_with (refine wpList_store_mid rfl 25 (.tmp 3) (.tmp 20) rfl w.heap.size 0 z.toArray rfl rfl Hth.out (by simpa using Hsz.out) Hone.out ?_)
        go_roundw
        case rel =>
          have hWs := HWs.out
          refine ⟨k + 1, by omega, by go_num, by rw [Hnx.out], ?_, fy.setCells _ _ _, (hW2.below hb2 (by omega)).setCells_other (by omega) _, (hF2.below hb2 (by omega)).setCells _ _ _, below_setCells (Nat.le_refl _) _ _ (hWb.trans (hb2.mono (by omega))), ?_⟩
          · rw [Hnx.out, if_pos Hc.out]
            show Row (w2.setCells w.heap.size 0 z) _ _ _ _
            rw [Hz.out]
            exact ry.setCells fy _
          · rw [size_setCells]; have := hb2.size; omega
        case measure => simp [intOf]; omega
      · have hc' : (bits BinOp.and IntKind.i64 q 1 == 1) = false := by simp [hc]
        have Hc := Lib.hid hc
        clear hc
        go_wp2_with (first
          | (refine wpList_load_mid rfl 25 (.tmp 13) rfl b (o + k * 32) rfl x _ Hrx.out Tryd.underlying25 rfl Hszx.out ?_)
          | (refine wpList_store_mid rfl 25 (.tmp 8) (.tmp 14) rfl wr.heap.size 0 x.toArray rfl rfl Hthx.out (by simpa using Hszx.out) Honex.out ?_; rw [show (wr.alloc z32).setCells wr.heap.size 0 x.toArray.toList = W from HW.out.symm])
          | (refine wpList_load_mid rfl 25 (.tmp 8) rfl wr.heap.size 0 rfl x _ HWx.out Tryd.underlying25 rfl Hszx.out ?_)
          | (refine wpList_load_mid rfl 25 (.tmp 3) rfl w.heap.size 0 rfl y _ HWy.out Tryd.underlying25 rfl Hszy.out ?_))
        rw [HX.out, HY.out]
        refine (pair_any h (br k) fi ad W (hT.below hWb hT.h1) (Hbd.out) (hbr k)).mono ?_
        rintro e w2 ⟨rfl, hb2⟩
        obtain ⟨z, hz⟩ : ∃ z, z = lst 32 (u8c (pairF ad fi h (br k))) := ⟨_, rfl⟩
        have hzl : z.length = 32 := by rw [hz]; exact lst_length _ _
        unfold agg32
        rw [← hz]
        have hWs := HWs.out
        have ry := hW1.below hb2 (by omega)
        have fy := hF1.below hb2 (by omega)
        have hth : w2.there w.heap.size 0 z.toArray.size := by simp only [List.size_toArray]; rw [hzl]; exact ry.there fy
        have hsz : (Tryd.prog.info? 25).map (·.size) = some z.length := by rw [hzl]; kernel_rfl
        have hone : z.toArray.all (·.oneCell') = true := by rw [hz]; exact one_all fun _ => rfl
        have Hz := Lib.hid hz
        have Hth := Lib.hid hth
        have Hsz := Lib.hid hsz
        have Hone := Lib.hid hone
        clear hz hzl hth hsz hone hWs
        go_wp2_with (refine wpList_store_mid rfl 25 (.tmp 3) (.tmp 23) rfl w.heap.size 0 z.toArray rfl rfl Hth.out (by simpa using Hsz.out) Hone.out ?_)
        go_roundw
        case rel =>
          have hWs := HWs.out
          refine ⟨k + 1, by omega, by go_num, by rw [Hnx.out], ?_, fy.setCells _ _ _, (hW2.below hb2 (by omega)).setCells_other (by omega) _, (hF2.below hb2 (by omega)).setCells _ _ _, below_setCells (Nat.le_refl _) _ _ (hWb.trans (hb2.mono (by omega))), ?_⟩
          · rw [Hnx.out, if_neg Hc.out]
            show Row (w2.setCells w.heap.size 0 z) _ _ _ _
            rw [Hz.out]
            exact ry.setCells fy _
          · rw [size_setCells]; have := hb2.size; omega
        case measure => simp [intOf]; omega
    · obtain rfl : k = n := by omega
      obtain ⟨y, hy⟩ : ∃ y, y = lst 32 (u8c h) := ⟨_, rfl⟩
      have hyl : y.length = 32 := by rw [hy]; exact lst_length _ _
      have hszy : (Tryd.prog.info? 25).map (·.size) = some y.length := by rw [hyl]; kernel_rfl
      have hWy : wr.rangeAt w.heap.size 0 y := by rw [hy]; exact r1.range
      have hth : wr.there (w.heap.size + 1) 0 y.toArray.size := by simp only [List.size_toArray]; rw [hyl]; exact r2.there f2
      have hone : y.toArray.all (·.oneCell') = true := by rw [hy]; exact one_all fun _ => rfl
      have HY := Lib.hid hy
      have Hszy := Lib.hid hszy
      have HWy := Lib.hid hWy
      have Hth := Lib.hid hth
      have Hone := Lib.hid hone
      clear hy hyl hszy hWy hth hone
      go_wp2_with (first
        | (refine wpList_load_mid rfl 25 (.tmp 3) rfl w.heap.size 0 rfl y _ HWy.out Tryd.underlying25 rfl Hszy.out ?_)
        | (refine wpList_store_mid rfl 25 (.tmp 6) (.tmp 27) rfl (w.heap.size + 1) 0 y.toArray rfl rfl Hth.out (by simpa using Hszy.out) Hone.out ?_))
      refine bodyPost_ret (results_mid (cs := y) Tryd.results11 _ _ (w.heap.size + 1) 0 _ rfl ?_ Tryd.underlying25 rfl Hszy.out) rfl ⟨by rw [HY.out, Hhe.out], ?_⟩
      · show (wr.setCells (w.heap.size + 1) 0 y).rangeAt _ _ _
        rw [HY.out]; exact (r2.setCells f2 _).range
      · exact below_setCells (by omega) _ _ hb
end Go.Proofs.YtaknoodgpkdhbaaDoor
