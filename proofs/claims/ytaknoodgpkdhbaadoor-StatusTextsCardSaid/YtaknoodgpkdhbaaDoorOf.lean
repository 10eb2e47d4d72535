/- The contract of status.Of. -/
import Derived.Test.YtaknoodgpkdhbaaDoorDigits
import Derived.Lib.ConvBytes
import Derived.Laws.ResultCell
import Derived.Laws.AppendOwn

namespace Go.Proofs.YtaknoodgpkdhbaaDoor
open Go.RowKit Go.Sort

/-- bytes as numbers -/
def bsF (l : List UInt8) (j : Nat) : Int := (l.getD j 0).toNat
theorem bsF_bd (l : List UInt8) (j : Nat) : 0 ≤ bsF l j ∧ bsF l j ≤ 255 := by
  have := (l.getD j 0).toNat_lt
  unfold bsF
  omega
def zf : Nat → Int := fun _ => 0
/-- what a history comes to -/
def ofF (ad fi : Nat → Int) (l : List UInt8) : Nat → Int := if l = [] then zf else shaF ad fi (bsF l) l.length
theorem ofF_bd (ad fi : Nat → Int) (l : List UInt8) (j : Nat) : 0 ≤ ofF ad fi l j ∧ ofF ad fi l j ≤ 255 := by
  unfold ofF
  split
  · exact ⟨Int.le_refl 0, show (0 : Int) ≤ 255 by decide⟩
  · exact shaF_bd _ _ _ _ j

/-- the bytes of a text, in a new row -/
theorem conv_bytes (W : World) (l : List UInt8) : ∃ W' c, (convert 9 34 (.string ⟨l.toArray⟩)).run Tryd.prog W = .ok (.slice (some ⟨W.heap.size, 0, none⟩) l.length c) W' ∧ l.length ≤ c ∧ Below W.heap.size W W' ∧ W'.heap.size = W.heap.size + 1 ∧
    ∀ j, j < l.length → W'.cell? ⟨W.heap.size, 0 + j, none⟩ = some (.int .u8 (bsF l j)) := by
  refine ⟨Lib.bytesWorld W 5 ⟨l.toArray⟩, _, Lib.run_convert_string_bytes W 9 34 5 ⟨l.toArray⟩ Tryd.underlying9 Tryd.underlying34 Tryd.underlying5, ?_, ?_, Lib.bytesWorld_size W 5 _, ?_⟩
  · exact grownCap_ge W l.length 0 5
  · exact ⟨rfl, rfl, rfl, by rw [Lib.bytesWorld_size]; omega, fun i hi => Lib.bytesWorld_at_old W 5 _ i (by omega)⟩
  · intro j hj
    rw [Nat.zero_add, Lib.bytesWorld_cell W 5 _ j (show j < l.toArray.size by simpa using hj)]
    rfl

/-- a result in a cell of several cells, and one beside it -/
theorem results_mid_tmp {P : Program} {fn : Func} {p u : Tmp} {ty : TypeId} (h : fn.results = #[.cell p ty, .tmp u]) (tmps : Array Value) (w : World) (g o : Nat) (cs : List Value) (d : TypeDesc) (v : Value)
    (hp : tmps.getD p undef = .pointer (some ⟨g, o, none⟩)) (hv : tmps.getD u undef = v) (hc : w.rangeAt g o cs) (hu : P.underlying ty = some d) (hd : d.isRow = true) (hi : (P.info? ty).map (·.size) = some cs.length) :
    (results fn tmps).run P w = .ok (.tuple #[.agg cs.toArray, v]) w := by
  rw [results_cell_tmp h, hp, hv]
  simp [asAddr, run_loadVar_mid w g o ty cs d hc hu hd hi]

theorem Hist.below {w w' : World} {ao : Option Addr} {n : Nat} {hts : Nat → Int} {txs : Nat → Nat → Int} (h : Hist w ao n hts txs) {B : Nat} (hb : Below B w w') (hB : w.heap.size ≤ B) : Hist w' ao n hts txs := by
  refine ⟨fun i hi => ?_, h.lo, h.tx⟩
  obtain ⟨b, o, ps, h1, h2, h3⟩ := h.at_ i hi
  exact ⟨b, o, ps, h1, Nat.lt_of_lt_of_le h2 hb.size, fun j v hv => (hb.cell (show b < B by omega)).trans (h3 j v hv)⟩
theorem histL_ne {hts : Nat → Int} {txs : Nat → Nat → Int} {n : Nat} (h : 0 < n) : histL hts txs n ≠ [] := by
  cases n with
  | zero => omega
  | succ n => simp [histL, itemL]

set_option maxRecDepth 100000 in
set_option maxHeartbeats 1000000 in
theorem of_any (ad fi : Nat → Int) (ao : Option Addr) (n c : Nat) (hts : Nat → Int) (txs : Nat → Nat → Int) (w : World) (hn : n ≤ 1000) (hH : Hist w ao n hts txs) (hL : Laid ad fi w) :
    Calls Tryd.prog 8 #[.slice ao n c] w fun e w' => e = .returned (.tuple #[agg32 (ofF ad fi (histL hts txs n)), .bool (decide (0 < n))]) ∧ Below w.heap.size w w' := by
  obtain ⟨zs, hzs⟩ : ∃ zs, zs = lst 32 (u8c zf) := ⟨_, rfl⟩
  have hz : ∀ W, (zeroValue 25).run Tryd.prog W = .ok (.agg zs.toArray) W := fun W => by rw [hzs]; kernel_rfl
  obtain ⟨W, hW⟩ : ∃ W, W = w.alloc (.cells zs.toArray 25) := ⟨_, rfl⟩
  have hbW : Below w.heap.size w W := by rw [hW]; exact (Below.refl _ _).alloc (Nat.le_refl _) _
  have hsW : W.heap.size = w.heap.size + 1 := by rw [hW]; simp
  have r2 : Row W w.heap.size 0 32 (u8c zf) := by rw [hW]; exact Row.new w zs.toArray 25 (u8c zf) 32 (fun j hj => by rw [hzs]; simpa using lst_get hj)
  have f2 : Free W w.heap.size := by rw [hW]; exact Free.new w _ _
  have Hzs := Lib.hid hzs
  have HW := Lib.hid hW
  clear hzs hW
  by_cases h0 : n = 0
  · subst h0
    have hsz : (Tryd.prog.info? 25).map (·.size) = some zs.length := by rw [Hzs.out, lst_length]; kernel_rfl
    have hth : W.there w.heap.size 0 zs.toArray.size := by simp only [List.size_toArray]; rw [Hzs.out, lst_length]; exact r2.there f2
    have hone : zs.toArray.all (·.oneCell') = true := by rw [Hzs.out]; exact one_all fun _ => rfl
    have hfin : Value.tuple #[.agg zs.toArray, .bool false] = .tuple #[agg32 (ofF ad fi (histL hts txs 0)), .bool (decide (0 < 0))] := by rw [Hzs.out]; rfl
    have Hfin := Lib.hid hfin
    clear hfin
    have Hsz := Lib.hid hsz
    have Hth := Lib.hid hth
    have Hone := Lib.hid hone
    clear hsz hth hone
    go_enter Tryd.func8, Tryd.ntmps8
    go_wp2_with (refine wpList_store_mid rfl 25 (.tmp 2) (.tmp 7) rfl w.heap.size 0 zs.toArray rfl rfl (by rw [← HW.out]; exact Hth.out) (by simpa using Hsz.out) Hone.out ?_; rw [← HW.out])
    refine bodyPost_ret (results_mid_tmp (cs := zs) Tryd.results8 _ _ w.heap.size 0 _ (.bool false) rfl rfl ?_ Tryd.underlying25 rfl Hsz.out) rfl ⟨congrArg Ending.returned Hfin.out, ?_⟩
    · show (W.setCells w.heap.size 0 zs).rangeAt _ _ _
      rw [Hzs.out]; exact (r2.setCells f2 _).range
    · exact below_setCells (Nat.le_refl _) _ _ hbW
  · have h0' : ((n : Int) == 0) = false := by simp; omega
    go_enter Tryd.func8, Tryd.ntmps8
    go_wp2_with fail
    rw [← HW.out]
    refine (stext_any ao n c hts txs W hn (hH.below hbW (Nat.le_refl _)) (by have := hL.h2; omega) (hL.below hbW hL.h2).pow).mono ?_
    rintro e w1 ⟨rfl, hb1⟩
    obtain ⟨l, hl⟩ : ∃ l, l = histL hts txs n := ⟨_, rfl⟩
    have hne : l ≠ [] := by rw [hl]; exact histL_ne (by omega)
    have hlen : l.length ≤ 100000 := by rw [hl]; have := histL_length (txs := txs) hH.lo n; omega
    have hpos : 0 < l.length := List.length_pos_iff.2 hne
    rw [← hl]
    obtain ⟨W2, c2, hcv, hc2, hb2, hs2, hcs⟩ := conv_bytes w1 l
    have hb1' : Below w.heap.size w w1 := hbW.trans (hb1.mono (by omega))
    have hb2' : Below w.heap.size w W2 := hb1'.trans (hb2.mono hb1'.size)
    have Hl := Lib.hid hl
    have Hcs := Lib.hid hcs
    clear hl hcs
    go_wp2_with fail
    have hT : Tabs ad fi W2 := hL.tabs.below hb2' (by have := hL.h2; omega)
    refine (sum_any (bsF l) fi ad w1.heap.size 0 l.length c2 W2 (by omega) hpos hc2 (by omega) hT.h1 hT.hA hT.hF Hcs.out (bsF_bd l)).mono ?_
    rintro e w3 ⟨rfl, hb3⟩
    obtain ⟨z, hzz⟩ : ∃ z, z = lst 32 (u8c (shaF ad fi (bsF l) l.length)) := ⟨_, rfl⟩
    unfold agg32
    rw [← hzz]
    have hb3' : Below W.heap.size W w3 := (hb1.trans (hb2.mono hb1.size)).trans (hb3.mono (by have := hb1.size; omega))
    have ry := r2.below hb3' (by omega)
    have fy := f2.below hb3' (by omega)
    have hzl : z.length = 32 := by rw [hzz]; exact lst_length _ _
    have hth : w3.there w.heap.size 0 z.toArray.size := by simp only [List.size_toArray]; rw [hzl]; exact ry.there fy
    have hsz : (Tryd.prog.info? 25).map (·.size) = some z.length := by rw [hzl]; kernel_rfl
    have hone : z.toArray.all (·.oneCell') = true := by rw [hzz]; exact one_all fun _ => rfl
    have hfin : Value.tuple #[.agg z.toArray, .bool true] = .tuple #[agg32 (ofF ad fi (histL hts txs n)), .bool (decide (0 < n))] := by
      rw [decide_eq_true (by omega), ← Hl.out, ofF, if_neg hne, hzz]; rfl
    have Hzz := Lib.hid hzz
    have Hth := Lib.hid hth
    have Hsz := Lib.hid hsz
    have Hone := Lib.hid hone
    have Hfin := Lib.hid hfin
    clear hzz hth hsz hone hfin hcv
    go_wp2_with (refine wpList_store_mid rfl 25 (.tmp 2) (.tmp 11) rfl w.heap.size 0 z.toArray rfl rfl Hth.out (by simpa using Hsz.out) Hone.out ?_)
    refine bodyPost_ret (results_mid_tmp (cs := z) Tryd.results8 _ _ w.heap.size 0 _ (.bool true) rfl rfl ?_ Tryd.underlying25 rfl Hsz.out) rfl ⟨congrArg Ending.returned Hfin.out, ?_⟩
    · show (w3.setCells w.heap.size 0 z).rangeAt _ _ _
      rw [Hzz.out]; exact (ry.setCells fy _).range
    · exact below_setCells (Nat.le_refl _) _ _ (hbW.trans (hb3'.mono (by omega)))
end Go.Proofs.YtaknoodgpkdhbaaDoor
