/- The contracts of sha.Double and sha.Pair. -/
import Derived.Test.YtaknoodgpkdhbaaDoorSum
import Derived.ArgAppend
import Derived.OwnWalk

namespace Go.Proofs.YtaknoodgpkdhbaaDoor
open Go.RowKit

/-- the two tables of package sha, as they are laid -/
structure Tabs (ad fi : Nat → Int) (w : World) : Prop where
  h1 : 1 < w.heap.size
  hA : ∀ j, j < 64 → w.cell? ⟨1, j, none⟩ = some (.int .u32 (ad j))
  hF : ∀ j, j < 8 → w.cell? ⟨0, j, none⟩ = some (.int .u32 (fi j))
theorem Tabs.below {ad fi : Nat → Int} {w w' : World} (h : Tabs ad fi w) {B : Nat} (hb : Below B w w') (hB : 1 < B) : Tabs ad fi w' :=
  ⟨Nat.lt_of_lt_of_le h.h1 hb.size, fun j hj => (hb.cell (by exact hB)).trans (h.hA j hj), fun j hj => (hb.cell (by exact (by omega : 0 < B))).trans (h.hF j hj)⟩
theorem shaF_bd (ad fi bs : Nat → Int) (len : Nat) : ∀ j, 0 ≤ shaF ad fi bs len j ∧ shaF ad fi bs len j ≤ 255 := by
  intro j
  unfold shaF outF
  split <;> omega

def dblF (ad fi bs : Nat → Int) (len : Nat) : Nat → Int := shaF ad fi (shaF ad fi bs len) 32

set_option maxRecDepth 100000 in
set_option maxHeartbeats 1000000 in
theorem double_any (bs fi ad : Nat → Int) (b off len cap : Nat) (w : World) (hb : b < w.heap.size) (h0 : 0 < len) (hl : len ≤ cap) (hcap : len ≤ 140737488351232)
   (hT : Tabs ad fi w) (hbs : ∀ j, j < len → w.cell? ⟨b, off + j, none⟩ = some (.int .u8 (bs j))) (hB : ∀ j, 0 ≤ bs j ∧ bs j ≤ 255) :
    Calls Tryd.prog 21 #[.slice (some ⟨b, off, none⟩) len cap] w fun e w' => e = .returned (agg32 (dblF ad fi bs len)) ∧ Below w.heap.size w w' := by
  go_enter Tryd.func21, Tryd.ntmps21
  go_wp2_with fail
  have hz := zeros32 w (fun _ => 0)
  have hbl : Below w.heap.size w (w.alloc z32) := (Below.refl _ _).alloc (Nat.le_refl _) _
  refine (sum_any bs fi ad b off len cap _ ?_ h0 hl hcap ?_ ?_ ?_ ?_ hB).mono ?_
  · simp; omega
  · have := hT.h1; simp; omega
  · exact (hT.below hbl hT.h1).hA
  · exact (hT.below hbl hT.h1).hF
  · exact fun j hj => (hbl.cell (by exact hb)).trans (hbs j hj)
  rintro e w1 ⟨rfl, hb1⟩
  have hw1 : w.heap.size + 1 ≤ w1.heap.size := by have := hb1.size; simpa using this
  obtain ⟨l, hl1⟩ : ∃ l, l = lst 32 (u8c (shaF ad fi bs len)) := ⟨_, rfl⟩
  have hll : l.length = 32 := by rw [hl1]; exact lst_length _ _
  unfold agg32
  rw [← hl1]
  obtain ⟨z1, fz1⟩ := zeros32 w1 (fun _ => 0)
  have hth : (w1.alloc z32).there w1.heap.size 0 l.toArray.size := by simp only [List.size_toArray]; rw [hll]; exact z1.there fz1
  have hsz : (Tryd.prog.info? 25).map (·.size) = some l.length := by rw [hll]; kernel_rfl
  have hone : l.toArray.all (·.oneCell') = true := by rw [hl1]; exact one_all fun _ => rfl
  have Hl := Lib.hid hl1
  have Hll := Lib.hid hll
  have Hth := Lib.hid hth
  have Hsz := Lib.hid hsz
  have Hone := Lib.hid hone
  clear hl1 hll hth hsz hone
  go_wp2_with (refine wpList_store_mid rfl 25 (.tmp 3) (.tmp 5) rfl w1.heap.size 0 l.toArray rfl rfl Hth.out (by simpa using Hsz.out) Hone.out ?_)
  have hrow : Row ((w1.alloc z32).setCells w1.heap.size 0 l) w1.heap.size 0 32 (u8c (shaF ad fi bs len)) := by rw [Hl.out]; exact z1.setCells fz1 _
  have hb2 : Below w.heap.size w ((w1.alloc z32).setCells w1.heap.size 0 l) := below_setCells (by omega) _ _ ((hbl.trans (hb1.mono (by simp))).alloc (by omega) _)
  refine (sum_any (shaF ad fi bs len) fi ad w1.heap.size 0 32 32 _ ?_ (by omega) (by omega) (by omega) ?_ ?_ ?_ hrow (shaF_bd ad fi bs len)).mono ?_
  · rw [size_setCells]; simp
  · rw [size_setCells]; have := hT.h1; simp; omega
  · exact (hT.below hb2 hT.h1).hA
  · exact (hT.below hb2 hT.h1).hF
  rintro e w2 ⟨rfl, hb3⟩
  have hs2 : ((w1.alloc z32).setCells w1.heap.size 0 l).heap.size = w1.heap.size + 1 := by rw [size_setCells]; simp
  obtain ⟨l2, hl2⟩ : ∃ l2, l2 = lst 32 (u8c (shaF ad fi (shaF ad fi bs len) 32)) := ⟨_, rfl⟩
  have hll2 : l2.length = 32 := by rw [hl2]; exact lst_length _ _
  unfold agg32
  rw [← hl2]
  have rz : Row w2 w.heap.size 0 32 (u8c (outF (fun _ => 0) 0)) := (((hz.1.below hb1 (by simp)).alloc (by omega) _).setCells_other (by omega) _).below hb3 (by omega)
  have fz : Free w2 w.heap.size := (((hz.2.below hb1 (by simp)).alloc (by omega) _).setCells _ _ _).below hb3 (by omega)
  have hth : w2.there w.heap.size 0 l2.toArray.size := by simp only [List.size_toArray]; rw [hll2]; exact rz.there fz
  have hsz : (Tryd.prog.info? 25).map (·.size) = some l2.length := by rw [hll2]; kernel_rfl
  have hone : l2.toArray.all (·.oneCell') = true := by rw [hl2]; exact one_all fun _ => rfl
  have Hl2 := Lib.hid hl2
  have Hll2 := Lib.hid hll2
  have Hth2 := Lib.hid hth
  have Hsz2 := Lib.hid hsz
  have Hone2 := Lib.hid hone
  clear hl2 hll2 hth hsz hone
  go_wp2_with (refine wpList_store_mid rfl 25 (.tmp 2) (.tmp 7) rfl w.heap.size 0 l2.toArray rfl rfl Hth2.out (by simpa using Hsz2.out) Hone2.out ?_)
  refine bodyPost_ret (results_mid (cs := l2) Tryd.results21 _ _ w.heap.size 0 _ rfl ?_ Tryd.underlying25 rfl Hsz2.out) rfl ⟨by rw [Hl2.out]; rfl, ?_⟩
  · rw [Hl2.out]; exact (rz.setCells fz _).range
  · exact below_setCells (Nat.le_refl _) _ _ (hb2.trans (hb3.mono (by omega)))

/-- 64 bytes out of two digests -/
def twoF (f g : Nat → Int) (j : Nat) : Int := if j < 32 then f j else g (j - 32)
def pairF (ad fi f g : Nat → Int) : Nat → Int := dblF ad fi (twoF f g) 64
theorem Tryd.info5 : (Tryd.prog.info? 5).map (fun i => (i.zero, i.size, i.bytes)) = some (some (.int .u8 0), 1, 1) := by kernel_rfl

theorem below_of_grown {w w' : World} {k : Nat} (h : (w.drewN k).grownBy w' none) : Below w.heap.size w w' :=
  ⟨h.os, h.tape, h.output, h.size, fun k hk => h.block k hk (by simp)⟩
/-- what an owned row of bytes is: a slice whose cells are known -/
theorem own_view {w : World} {base : Nat} {e : TypeId} {v : Value} {n : Nat} {xs : List Value} (h : w.ownsRow base e 1 v (n + 1) xs) :
    ∃ g c, v = .slice (some ⟨g, 0, none⟩) (n + 1) c ∧ base ≤ g ∧ g < w.heap.size ∧ n + 1 ≤ c ∧ w.rangeAt g 0 xs := by
  have hlt := h.lt
  obtain ⟨hx, hv | ⟨g, cap, cur, rfl, hb, hh, hn, hc, hs, ht⟩⟩ := h
  · exact absurd hv.2 (by omega)
  · refine ⟨g, cap, rfl, hb, (hlt g rfl).2, hn, ?_⟩
    intro j v hv
    have := World.ownsRow.cellAt (w := w) (base := base) (e := e) (size := 1) (g := g) (n := n + 1) (cap := cap) (xs := xs) ⟨hx, .inr ⟨g, cap, cur, rfl, hb, hh, hn, hc, hs, ht⟩⟩ j (by have := (List.getElem?_eq_some_iff.1 hv).1; omega)
    rw [Nat.zero_add, this, hv]

set_option maxRecDepth 100000 in
set_option maxHeartbeats 1000000 in
theorem pair_any (f g fi ad : Nat → Int) (w : World) (hT : Tabs ad fi w) (hf : ∀ j, 0 ≤ f j ∧ f j ≤ 255) (hg : ∀ j, 0 ≤ g j ∧ g j ≤ 255) :
    Calls Tryd.prog 17 #[agg32 f, agg32 g] w fun e w' => e = .returned (agg32 (pairF ad fi f g)) ∧ Below w.heap.size w w' := by
  obtain ⟨i0, hi, hz0, hz1, hz2⟩ := info_parts Tryd.info5
  obtain ⟨l, hl⟩ : ∃ l, l = lst 32 (u8c f) := ⟨_, rfl⟩
  obtain ⟨m, hm⟩ : ∃ m, m = lst 32 (u8c g) := ⟨_, rfl⟩
  unfold agg32
  rw [← hl, ← hm]
  have Hl := Lib.hid hl
  have Hm := Lib.hid hm
  clear hl hm
  go_enter Tryd.func17, Tryd.ntmps17
  go_wp2
  change Code.wp _ _ _ _ (((w.alloc (.cells l.toArray 25)).alloc (.cells m.toArray 25)).alloc z32)
  obtain ⟨W, hW⟩ : ∃ W, W = ((w.alloc (.cells l.toArray 25)).alloc (.cells m.toArray 25)).alloc z32 := ⟨_, rfl⟩
  have hsW : W.heap.size = w.heap.size + 3 := by rw [hW]; simp
  have hbW : Below w.heap.size w W := by rw [hW]; exact (((Below.refl _ _).alloc (Nat.le_refl _) _).alloc (by simp) _).alloc (by simp; omega) _
  have r1 : Row W w.heap.size 0 32 (u8c f) := by
    rw [hW]
    exact ((Row.new w l.toArray 25 (u8c f) 32 (fun j hj => by rw [Hl.out]; simpa using lst_get hj)).alloc (by simp) _).alloc (by simp; omega) _
  have r2 : Row W (w.heap.size + 1) 0 32 (u8c g) := by
    rw [hW]
    have := (Row.new (w.alloc (.cells l.toArray 25)) m.toArray 25 (u8c g) 32 (fun j hj => by rw [Hm.out]; simpa using lst_get hj)).alloc (by simp) z32
    simpa using this
  have r3 : Row W (w.heap.size + 1 + 1) 0 32 (u8c (outF (fun _ => 0) 0)) ∧ Free W (w.heap.size + 1 + 1) := by
    rw [hW]
    have := zeros32 ((w.alloc (.cells l.toArray 25)).alloc (.cells m.toArray 25)) (fun _ => 0)
    simpa using this
  rw [← hW]
  have HsW := Lib.hid hsW
  clear hW hsW
  refine wp_region_drawn_tail 2 (by kernel_rfl) (by kernel_rfl) ?_
  simp only [List.take_succ_cons, List.take_zero, List.drop_succ_cons, List.drop_zero]
  repeat (quiet_step (fail))
  refine wpQuiet_nil ?_
  intro _ hw'
  obtain ⟨nr, hw''⟩ := hw'
  subst hw''
  refine wpList_append_grows (W.drewN nr) rfl (.tmp 5) (.tmp 6) 34 rfl 5 i0 (.int .u8 0) 1 1 Tryd.underlying34 hi hz0 hz1 hz2 rfl (by decide)
    (some ⟨w.heap.size, 0, none⟩) 32 32 (lst 32 (u8c f)) rfl (fun h => by cases h) (lst_length _ _) (fun b hb j u hu => ?_) ⟨w.heap.size + 1, 0, none⟩ 32 32 (lst 32 (u8c g)) rfl (lst_length _ _) (fun j u hu => ?_) (fun u hu => ?_) (by omega) (by unfold maxLen; omega) (by omega) ?_
  · obtain rfl := Option.some.inj hb
    obtain ⟨hj, rfl⟩ := lst_get' hu
    rw [Addr.add_mid]; exact r1 j hj
  · obtain ⟨hj, rfl⟩ := lst_get' hu
    rw [Addr.add_mid]; exact r2 j hj
  · obtain ⟨j, _, rfl⟩ := List.mem_map.1 hu
    rfl
  intro v' w1 hown hgrow
  have hbw1 : Below W.heap.size W w1 := below_of_grown hgrow
  obtain ⟨G, c, rfl, hG, hG2, hc, rG⟩ := own_view hown
  have hs1 : W.heap.size ≤ w1.heap.size := hbw1.size
  have hsW := HsW.out
  clear hown hgrow
  go_wp2_with fail
  refine (double_any (twoF f g) fi ad G 0 64 c _ ?_ (by omega) hc (by omega) ?_ ?_ ?_).mono ?_
  · exact hG2
  · exact hT.below (hbW.trans (hbw1.mono (by omega))) hT.h1
  · intro j hj
    refine rG j _ ?_
    unfold twoF
    by_cases h : j < 32
    · rw [List.getElem?_append_left (by rw [lst_length]; exact h), lst_get h, if_pos h]; rfl
    · rw [List.getElem?_append_right (by rw [lst_length]; omega), lst_length, lst_get (by omega), if_neg h]; rfl
  · intro j; unfold twoF; split
    · exact hf _
    · exact hg _
  rintro e w2 ⟨rfl, hb2⟩
  obtain ⟨l2, hl2⟩ : ∃ l2, l2 = lst 32 (u8c (dblF ad fi (twoF f g) 64)) := ⟨_, rfl⟩
  have hll2 : l2.length = 32 := by rw [hl2]; exact lst_length _ _
  unfold agg32
  rw [← hl2]
  have rz := (r3.1.below hbw1 (by omega)).below hb2 (by omega)
  have fz := (r3.2.below hbw1 (by omega)).below hb2 (by omega)
  have hth : w2.there (w.heap.size + 1 + 1) 0 l2.toArray.size := by simp only [List.size_toArray]; rw [hll2]; exact rz.there fz
  have hsz : (Tryd.prog.info? 25).map (·.size) = some l2.length := by rw [hll2]; kernel_rfl
  have hone : l2.toArray.all (·.oneCell') = true := by rw [hl2]; exact one_all fun _ => rfl
  have Hl2 := Lib.hid hl2
  have Hth2 := Lib.hid hth
  have Hsz2 := Lib.hid hsz
  have Hone2 := Lib.hid hone
  clear hl2 hll2 hth hsz hone
  go_wp2_with (refine wpList_store_mid rfl 25 (.tmp 4) (.tmp 8) rfl (w.heap.size + 1 + 1) 0 l2.toArray rfl rfl Hth2.out (by simpa using Hsz2.out) Hone2.out ?_)
  refine bodyPost_ret (results_mid (cs := l2) Tryd.results17 _ _ (w.heap.size + 1 + 1) 0 _ rfl ?_ Tryd.underlying25 rfl Hsz2.out) rfl ⟨by rw [Hl2.out]; rfl, ?_⟩
  · rw [Hl2.out]; exact (rz.setCells fz _).range
  · exact below_setCells (by omega) _ _ ((hbW.trans (hbw1.mono (by omega))).trans (hb2.mono (by omega)))
end Go.Proofs.YtaknoodgpkdhbaaDoor
