/- The walk of the law CursorParts. -/
import Derived.Test.YtnmpiobgdnfmjaaDoorHead
import Derived.Test.YtnmpiobgdnfmjaaDoorPlain
import Derived.Maps.AppendAt
import Derived.Test.YtnmpiobgdnfmjaaDoorEq
namespace Go.Proofs.YtnmpiobgdnfmjaaDoor
open Go Go.RowKit

theorem and3 (n : Int) : bits BinOp.and IntKind.i64 n 3 = n % 4 := by
  have h3 : (BitVec.ofInt 64 3).toNat = 2 ^ 2 - 1 := by decide
  have key : (BitVec.ofInt 64 n &&& BitVec.ofInt 64 3).toNat = (n % ((2 ^ 64 : Nat) : Int)).toNat % 2 ^ 2 := by
    rw [BitVec.toNat_and, h3, Nat.and_two_pow_sub_one_eq_mod, BitVec.toNat_ofInt]
  show IntKind.i64.wrap ((BitVec.ofInt 64 n &&& BitVec.ofInt 64 3).toNat : Nat) = n % 4
  rw [key, IntKind.wrap_i64]
  omega
theorem insE_length (x : Ent) (out : List Ent) : (insE x out).length ≤ out.length + 1 := by
  unfold insE
  split
  · omega
  · have := atE_le x out
    simp; omega
theorem foldE_length : ∀ (es out : List Ent), (es.foldl ordStep out).length ≤ out.length + es.length := by
  intro es
  induction es with
  | nil => intro out; exact Nat.le_refl _
  | cons x r ih =>
    intro out
    have := ih (ordStep out x)
    have h2 : (ordStep out x).length ≤ out.length + 1 := by
      unfold ordStep
      split
      · exact insE_length x out
      · omega
    simp at this ⊢; omega
theorem ordE_length (es : List Ent) : (ordE es).length ≤ es.length := by simpa [ordE] using foldE_length es []
/-- the class of the k-th of them -/
def clsI (parts : Int) (n : Int) (k : Int) : Int := (k * 7 + parts / 8) % 4 % n
def cls (parts : Int) (n : Nat) (k : Nat) : Nat := (clsI parts n k).toNat
theorem clsI_bd (parts : Int) (n : Nat) (k : Int) (hn : 1 ≤ n) : 0 ≤ clsI parts n k ∧ clsI parts n k < n := by
  unfold clsI
  exact ⟨Int.emod_nonneg _ (by omega), Int.emod_lt_of_pos _ (by omega)⟩
theorem cls_cast (parts : Int) (n : Nat) (k : Nat) (hn : 1 ≤ n) : ((cls parts n k : Nat) : Int) = clsI parts n k := by
  unfold cls
  have := clsI_bd parts n k hn
  omega
theorem cls_lt (parts : Int) (n : Nat) (k : Nat) (hn : 1 ≤ n) : cls parts n k < n := by
  have := cls_cast parts n k hn
  have := clsI_bd parts n k hn
  omega

theorem cls_test (parts : Int) (q k i : Nat) : ((bits BinOp.and IntKind.i64 (↑k * 7 + parts / 8) 3).tmod (1 + ↑q) == ↑i) = decide (cls parts (q + 1) k = i) := by
  rw [and3, Int.tmod_eq_emod_of_nonneg (Int.emod_nonneg _ (by decide))]
  have h := cls_cast parts (q + 1) k (by omega)
  unfold clsI at h
  rw [show ((q + 1 : Nat) : Int) = 1 + (q : Int) by omega] at h
  rw [← h, Bool.eq_iff_iff]
  simp only [beq_iff_eq, decide_eq_true_eq]
  omega
theorem partL_snoc (cls : Nat → Nat) (i : Nat) (x : Ent) : ∀ (l : List Ent) (k : Nat), partL cls i k (l ++ [x]) = partL cls i k l ++ (if cls (k + l.length) = i then [x] else []) := by
  intro l
  induction l with
  | nil =>
    intro k
    show (if cls k = i then x :: partL cls i (k + 1) [] else partL cls i (k + 1) []) = [] ++ _
    simp only [partL, List.length_nil, Nat.add_zero, List.nil_append]
  | cons y r ih =>
    intro k
    have := ih (k + 1)
    rw [show k + 1 + r.length = k + (y :: r).length by simp; omega] at this
    show (if cls k = i then y :: partL cls i (k + 1) (r ++ [x]) else partL cls i (k + 1) (r ++ [x])) = (if cls k = i then y :: partL cls i (k + 1) r else partL cls i (k + 1) r) ++ _
    rw [this]
    split <;> simp
theorem partL_take {cls : Nat → Nat} {i k : Nat} {x : Ent} {all : List Ent} (h : all[k]? = some x) : partL cls i 0 (all.take (k + 1)) = partL cls i 0 (all.take k) ++ (if cls k = i then [x] else []) := by
  have hk : k < all.length := (List.getElem?_eq_some_iff.1 h).1
  rw [List.take_add_one, h]
  show partL cls i 0 (all.take k ++ [x]) = _
  rw [partL_snoc, List.length_take, Nat.min_eq_left (by omega), Nat.zero_add]

set_option maxRecDepth 100000 in
set_option maxHeartbeats 4000000 in
theorem law_parts (w : World) (ao : Option Addr) (cp : Nat) (es : List Ent) (parts : Int) (h : SlE w ao es) (hok : ∀ x, x ∈ es → x.ok) (hcap : es.length ≤ cp) (hcp : cp ≤ 9223372036854775807) (hp0 : -9223372036854775808 ≤ parts) (hp1 : parts ≤ 9223372036854775807) :
    Calls Tryd.prog 3 #[.slice ao es.length cp, .int .i64 parts] w fun e w' => e = .returned (.bool true) ∧ Below w.heap.size w w' := by
  obtain ⟨n, hn⟩ : ∃ n, n = es.length := ⟨_, rfl⟩
  rw [← hn] at hcap ⊢
  have Hn := Lib.hid hn
  clear hn
  obtain ⟨i0, hi0, hz0, hz1, hz2⟩ := info_parts infoE
  obtain ⟨j0, hj0, hy0, hy1, hy2⟩ := info_parts infoC
  go_enter Tryd.func3, Tryd.ntmps3
  go_wp2_with fail
  refine (head_any w).mono ?_
  rintro e w1 ⟨rfl, hb1⟩
  have hs1 := hb1.size
  have hbig : Calls Tryd.prog 5 #[.slice (some ⟨w1.heap.size, 0, none⟩) 1 1] (w1.alloc (.cells #[.slice ao n cp] 22)) fun e w' => e = .returned (.bool (bigL es)) ∧ Below (w1.heap.size + 1) (w1.alloc (.cells #[.slice ao n cp] 22)) w' := by
    have hB := Blk.new w1 #[.slice ao n cp] 22
    have hls : SlLL (w1.alloc (.cells #[.slice ao n cp] 22)) w1.heap.size 0 [(ao, cp, es)] := by
      refine ⟨by simp, fun k q hq => ?_⟩
      cases k with
      | zero =>
        simp at hq
        subst hq
        exact ⟨by rw [← Hn.out]; exact hB.cell_some rfl, h.below' (hb1.alloc hs1 _), by rw [← Hn.out]; exact hcap, hcp⟩
      | succ k => simp at hq
    refine (big_any _ w1.heap.size 0 1 [(ao, cp, es)] hls (fun q hq x hx => by simp at hq; subst hq; exact hok x hx) (Nat.le_refl _) (by decide)).mono fun e w' hp => ⟨?_, by simpa using hp.2⟩
    rw [hp.1]
    simp [bigLL, LLs]
  have Hbig := Lib.hid hbig
  clear hbig
  go_wp2_with fail
  refine Hbig.out.mono ?_
  rintro e w2 ⟨rfl, hb2⟩
  have hb2' : Below w.heap.size w w2 := (hb1.alloc hs1 _).trans (hb2.mono (by omega))
  by_cases hbg : bigL es = true
  · go_wp2
    go_ret
    exact ⟨rfl, hb2'⟩
  have hbf : bigL es = false := by simpa using hbg
  have hn25 : n ≤ 25 := by
    rw [Hn.out]
    unfold bigL at hbf
    simp only [Bool.or_eq_false_iff, decide_eq_false_iff_not] at hbf
    omega
  have hord : Calls Tryd.prog 6 #[.slice ao n cp, .int .i64 0] w2 (OrdPost (ordE es) w2) := by
    rw [Hn.out]
    exact order_any w2 ao cp es (h.below' hb2') hok (by rw [← Hn.out]; exact hcap) (by rw [← Hn.out]; omega)
  obtain ⟨all, hall⟩ : ∃ all, all = ordE es := ⟨_, rfl⟩
  rw [← hall] at hord
  have hlen : all.length ≤ 25 := by rw [hall]; have := ordE_length es; have := Hn.out; omega
  have hsort : Sorted all := by rw [hall]; exact ordE_sorted es
  have haok : ∀ x, x ∈ all → x.ok := fun x hx => hok x (mem_ordE (by rw [← hall]; exact hx))
  have Hord := Lib.hid hord
  have Hsort := Lib.hid hsort
  have Haok := Lib.hid haok
  clear hord hall hsort haok hbg h hok
  go_wp2_with fail
  refine Hord.out.mono ?_
  rintro e w3 ⟨g, c, rfl, hgc, hcm, hsl3, hg3, hg3', hb3⟩
  obtain ⟨m, hm⟩ : ∃ m, m = all.length := ⟨_, rfl⟩
  rw [← hm] at hlen hgc ⊢
  have Hm := Lib.hid hm
  have Hsl3 := Lib.hid hsl3
  obtain ⟨q, hq, hq3⟩ : ∃ q : Nat, bits BinOp.and IntKind.i64 parts 3 = q ∧ q ≤ 3 := ⟨(parts % 4).toNat, by rw [and3]; omega, by omega⟩
  have hq3' : (q : Int) ≤ 3 := by omega
  have hq0 : (0 : Int) ≤ q := by omega
  have hmx : maxLen = 9223372036854775807 := by decide
  have hc9 : c ≤ 9223372036854775807 := by omega
  have hmc : (m : Int) ≤ c := by omega
  clear hmx hm hsl3
  have hb3' : Below w.heap.size w w3 := hb2'.trans (hb3.mono hb2'.size)
  go_wp2_with fail
  go_loopw [6, 8] (fun s6 s8 wr => ∃ (i : Nat) (cc : Nat) (gc : Nat) (cb gb : Nat → Nat), i ≤ q + 1 ∧ s8 = .int .i64 i ∧ s6 = .slice (some ⟨gc, 0, none⟩) i cc ∧ Below w3.heap.size w3 wr ∧
      wr.ownsRow w3.heap.size 32 1 (.slice (some ⟨gc, 0, none⟩) i cc) i ((List.range i).map fun j => ptrC (cb j)) ∧ CursL wr i cb gb (fun j => partL (cls parts (q + 1)) j 0 all) ∧
      (∀ j, j < i → w3.heap.size ≤ cb j ∧ gb j < wr.heap.size ∧ gc ≠ cb j ∧ gc ≠ gb j)) (fun _ s8 _ => q + 1 - (intOf s8).toNat)
  case atStart =>
    refine ⟨0, 0, w3.heap.size, fun _ => 0, fun _ => 0, by omega, rfl, rfl, (Below.refl _ _).alloc (Nat.le_refl _) _, World.ownsRow_made w3 #[] 0 (Nat.le_refl _) (by unfold maxLen; omega) rfl, ⟨fun i hi => by omega, fun i j hi => by omega, fun i j hi => by omega⟩, fun j hj => by omega⟩
  case round =>
    obtain ⟨wo, hwo⟩ : ∃ wo, wo = wr := ⟨_, rfl⟩
    subst hwo
    obtain ⟨i, cc, gc, cb, gb, hi, rfl, rfl, hbo, hownc, hcur, hsep⟩ := hrel
    by_cases hin : i < q + 1
    · have hin' : (i : Int) < 1 + q := by omega
      have hsep' := Lib.hid hsep
      have Hownc := Lib.hid hownc
      have Hcur := Lib.hid hcur
      clear hsep hownc hcur
      have hwo := hbo.size
      go_wp2_with fail
      go_loopw [9, 40] (fun s9 s40 wr => ∃ (k : Nat) (own : List Ent) (gn co : Nat), k ≤ m ∧ s40 = .int .i64 k ∧ own = partL (cls parts (q + 1)) i 0 (all.take k) ∧ s9 = .slice (some ⟨gn, 0, none⟩) own.length co ∧ own.length ≤ k ∧
          wr.ownsRow wo.heap.size 30 4 (.slice (some ⟨gn, 0, none⟩) own.length co) own.length (cellsE own) ∧ Below wo.heap.size wo wr) (fun _ s40 _ => m - (intOf s40).toNat)
      case atStart => exact ⟨0, [], wo.heap.size, 0, by omega, rfl, rfl, rfl, Nat.le_refl _, World.ownsRow_made wo #[] 0 (Nat.le_refl _) (by unfold maxLen; omega) rfl, (Below.refl _ _).alloc (Nat.le_refl _) _⟩
      case round =>
        obtain ⟨k, own, gn, co, hk, rfl, hpart, rfl, hol, hown, hbi⟩ := hrel
        have Hpart := Lib.hid hpart
        clear hpart
        have hwi := hbi.size
        by_cases hkm : k < m
        · have hkl : k < all.length := by rw [← Hm.out]; exact hkm
          obtain ⟨x, hx⟩ : ∃ x, all[k]? = some x := ⟨_, List.getElem?_eq_getElem hkl⟩
          obtain ⟨g', o', e1, _, hr0⟩ := Hsl3.out k x hx
          cases e1
          have hr := rangeAt_below hr0 (hbo.trans (hbi.mono hwo)) hg3'
          rw [Nat.zero_add] at hr
          have q0 : wr.cell? ⟨g, k * 4, none⟩ = some (.string x.key) := by have := hr 0 _ rfl; simpa using this
          have q1 : wr.cell? ⟨g, k * 4 + 1, none⟩ = some (.int .u64 x.seq) := hr 1 _ rfl
          have q2 : wr.cell? ⟨g, k * 4 + 2, none⟩ = some (.bool x.del) := hr 2 _ rfl
          have q3 : wr.cell? ⟨g, k * 4 + 3, none⟩ = some (.string x.val) := hr 3 _ rfl
          have hkm' : (k : Int) < m := by omega
          have hk0 : (0 : Int) ≤ k := by omega
          have Hx := Lib.hid hx
          clear hx hr hr0
          have hT := cls_test parts q k i
          have hpt := partL_take (cls := cls parts (q + 1)) (i := i) Hx.out
          rw [← Hpart.out] at hpt
          by_cases hcl : cls parts (q + 1) k = i
          · rw [decide_eq_true hcl] at hT
            rw [if_pos hcl] at hpt
            have Hpt := Lib.hid hpt
            have hnews : Blk ((wr.alloc x.obj).alloc x.obj) (wr.heap.size + 1) 30 x.cs := by
              have := Blk.new (wr.alloc x.obj) x.cs.toArray 30
              rw [show (wr.alloc x.obj).heap.size = wr.heap.size + 1 by simp] at this
              exact this
            have hone : ∀ u ∈ x.cs, u.oneCell' = true := fun u hu => cellsE_one [x] u (by simpa [cellsE] using hu)
            obtain ⟨r, hr⟩ : ∃ r, r = own.length := ⟨_, rfl⟩
            rw [← hr] at hown hol ⊢
            have hown2 := (hown.alloc x.obj).alloc x.obj
            have Hr := Lib.hid hr
            have Hnews := Lib.hid hnews
            have Hone := Lib.hid hone
            have Hown2 := Lib.hid hown2
            clear hpt hnews hone hown hown2 hcl hr
            go_wp2_with (at_builtin; refine wpList_append_own _ rfl _ _ 22 rfl wo.heap.size 30 i0 _ 4 48 Tryd.underlying22 hi0 hz0 hz1 hz2 rfl (by decide) (.slice (some ⟨gn, 0, none⟩) r co) r (cellsE own) rfl Hown2.out ⟨wr.heap.size + 1, 0, none⟩ 1 1 x.cs rfl rfl Hnews.out.news Hone.out (by unfold maxLen; omega) (by omega) (by simp; omega) ?_; intro v' w4 hown4 hgrow4 hnil4)
            have hv : v' ≠ .slice none 0 0 := fun e => by have := (hnil4.1 e).1; cases this
            have hown5 : w4.ownsRow wo.heap.size 30 4 v' (r + 1) (cellsE (own ++ [x])) := by
              rw [cellsE_append, show cellsE [x] = x.cs by simp [cellsE]]; exact hown4
            obtain ⟨g5, c5, rfl, hl5⟩ : ∃ g5 c5, v' = .slice (some ⟨g5, 0, none⟩) (r + 1) c5 ∧ r + 1 = (own ++ [x]).length := by
              obtain ⟨a1, c1, e1, e2, _⟩ := SlE.ofOwns hown5
              rcases hown5.2 with ⟨e, _⟩ | ⟨g3, c3, cur, e, _⟩
              · exact absurd e hv
              · rw [e1] at e
                cases e
                exact ⟨g3, c1, e1, e2⟩
            have hb4 : Below wo.heap.size wo w4 := ((hbi.alloc hwi _).alloc (by simp; omega) _).grown hgrow4 (by simp; omega) (fun k hk => (Hown2.out.lt k hk).1)
            go_roundw
            case rel => exact ⟨k + 1, own ++ [x], g5, c5, by omega, by go_num, Hpt.out.symm, by rw [← hl5], by rw [← hl5]; omega, by rw [← hl5]; exact hown5, hb4⟩
            case measure => simp [intOf]; omega
          · rw [decide_eq_false hcl] at hT
            rw [if_neg hcl, List.append_nil] at hpt
            have Hpt := Lib.hid hpt
            have Hown := Lib.hid hown
            clear hpt hown hcl
            go_wp2
            go_roundw
            case rel => exact ⟨k + 1, own, gn, co, by omega, by go_num, Hpt.out.symm, rfl, by omega, Hown.out.alloc _, hbi.alloc hwi _⟩
            case measure => simp [intOf]; omega
        · obtain rfl : k = m := by omega
          have hkm' : ¬ (k : Int) < k := by omega
          have hpt : own = partL (cls parts (q + 1)) i 0 all := by rw [Hpart.out, List.take_of_length_le (by rw [← Hm.out]; exact Nat.le_refl _)]
          have hlist : Calls Tryd.prog 7 #[.slice (some ⟨gn, 0, none⟩) own.length co] wr (NewL own (some (⟨gn, 0, none⟩ : Addr) ≠ none) wr) := by
            obtain ⟨a1, c1, e1, _, _, _, e5, _⟩ := SlE.ofOwns hown
            cases e1
            exact list_any wr _ co own e5 (by omega) (fun h => by cases h)
          have Hpt := Lib.hid hpt
          have Hlist := Lib.hid hlist
          clear hpt hlist hown
          go_wp2_with fail
          refine Hlist.out.mono ?_
          rintro e w4 ⟨cb', gb', rfl, hcb', hgb', hcb'', hL', hb4, hg'⟩
          have hg'' : gb' < w4.heap.size := hg' (by simp)
          clear hg'
          have hgc := (Hownc.out.lt gc rfl).2
          have hs4 := hb4.size
          have hw4 : Below wo.heap.size wo w4 := hbi.trans (hb4.mono hwi)
          have hown4 := (owns_below Hownc.out hw4).alloc (.cells #[.pointer (some ⟨cb', 0, none⟩)] 32)
          have hnews := Blk.new w4 #[.pointer (some ⟨cb', 0, none⟩)] 32
          have Hown4 := Lib.hid hown4
          have Hnews := Lib.hid hnews
          clear hown4 hnews
          go_wp2_with (at_builtin; refine wpList_append_own_at _ rfl _ _ 27 rfl w3.heap.size 32 j0 _ 1 8 Tryd.underlying27 hj0 hy0 hy1 hy2 rfl (by decide) (.slice (some ⟨gc, 0, none⟩) i cc) i ((List.range i).map fun j => ptrC (cb j)) rfl Hown4.out ⟨w4.heap.size, 0, none⟩ 1 1 [.pointer (some ⟨cb', 0, none⟩)] rfl rfl Hnews.out.news (fun u hu => by simp at hu; subst hu; rfl) (by unfold maxLen; omega) (by omega) (by simp; omega) ?_; intro v' w5 hown5 hgrow5 hnil5 hat5)
          have hv : v' ≠ .slice none 0 0 := fun e => by have := (hnil5.1 e).1; cases this
          have hown6 : w5.ownsRow w3.heap.size 32 1 v' (i + 1) ((List.range (i + 1)).map fun j => ptrC ((fun j => if j = i then cb' else cb j) j)) := by
            have e1 : ((List.range (i + 1)).map fun j => ptrC ((fun j => if j = i then cb' else cb j) j)) = ((List.range i).map fun j => ptrC (cb j)) ++ [.pointer (some ⟨cb', 0, none⟩)] := by
              rw [List.range_succ, List.map_append]
              congr 1
              · refine List.map_congr_left fun j hj => ?_
                have := List.mem_range.1 hj
                simp only
                rw [if_neg (by omega)]
              · simp [ptrC]
            rw [e1]; exact hown5
          obtain ⟨g5, c5, rfl⟩ : ∃ g5 c5, v' = .slice (some ⟨g5, 0, none⟩) (i + 1) c5 := by
            rcases hown6.2 with ⟨e, _⟩ | ⟨g3, c3, cur, e, _⟩
            · exact absurd e hv
            · exact ⟨g3, c3, e⟩
          have hg5 : g5 = gc ∨ g5 = w4.heap.size + 1 := by
            simp only [Value.ownBlock, Option.some.injEq] at hat5
            rcases hat5 with h | h
            · exact .inl h
            · exact .inr (by rw [h]; simp)
          have hch5 : Chg (fun k => k = gc) w4 w5 := ((Chg.refl _ w4).alloc (.cells #[.pointer (some ⟨cb', 0, none⟩)] 32)).trans (Chg.ofGrown hgrow5) (fun k _ e => by simpa [Value.ownBlock] using e.symm)
          have hs5 : w4.heap.size + 1 ≤ w5.heap.size := by have := hgrow5.size; simpa using this
          have hb5 : Below w3.heap.size w3 w5 := (hbo.trans (hw4.mono hwo)).trans (hch5.toBelow (by omega) (fun k hk e => by have := (Hownc.out.lt gc rfl).1; omega))
          clear hown5 hgrow5 hnil5 hat5 hv
          go_roundw
          case rel =>
            refine ⟨i + 1, c5, g5, fun j => if j = i then cb' else cb j, fun j => if j = i then gb' else gb j, by omega, by go_num, rfl, hb5, hown6, ⟨fun j hj => ?_, fun j j' hj hj' hne => ?_, fun j j' hj hj' => ?_⟩, fun j hj => ?_⟩
            · by_cases e : j = i
              · subst e
                simp only [if_true]
                rw [← Hpt.out]
                exact hL'.chg hch5 (by show cb' ≠ gc; omega) (fun _ => by show gb' ≠ gc; omega)
              · simp only [if_neg e]
                obtain ⟨_, s2, s3, s4⟩ := hsep'.out j (by omega)
                exact (((Hcur.out.cur j (by omega)).below hw4).chg hch5 (Ne.symm s3) (fun _ => Ne.symm s4))
            · have hl : ∀ j, j < i → cb j < wo.heap.size := fun j hj => (Hcur.out.cur j hj).lt
              by_cases e : j = i
              · subst e
                simp only [if_true, if_neg (show ¬ j' = j by omega)]
                have := hl j' (by omega); omega
              · by_cases e' : j' = i
                · subst e'
                  simp only [if_true, if_neg e]
                  have := hl j (by omega); omega
                · simp only [if_neg e, if_neg e']
                  exact Hcur.out.inj j j' (by omega) (by omega) hne
            · have hl : ∀ j, j < i → cb j < wo.heap.size := fun j hj => (Hcur.out.cur j hj).lt
              by_cases e : j = i
              · subst e
                by_cases e' : j' = j
                · subst e'
                  simp only [if_true]
                  obtain ⟨ao1, cp1, hA⟩ := hL'
                  exact hA.ne
                · simp only [if_true, if_neg e']
                  have := hl j' (by omega); omega
              · by_cases e' : j' = i
                · subst e'
                  simp only [if_true, if_neg e]
                  have := (hsep'.out j (by omega)).2.1; omega
                · simp only [if_neg e, if_neg e']
                  exact Hcur.out.ap j j' (by omega) (by omega)
            · by_cases e : j = i
              · subst e
                simp only [if_true]
                exact ⟨by omega, by omega, by omega, by omega⟩
              · simp only [if_neg e]
                obtain ⟨s1, s2, s3, s4⟩ := hsep'.out j (by omega)
                have := (Hcur.out.cur j (by omega)).lt
                exact ⟨s1, by omega, by omega, by omega⟩
          case measure => simp [intOf]; omega
    · obtain rfl : i = q + 1 := by omega
      have hin' : ¬ ((q + 1 : Nat) : Int) < 1 + q := by omega
      have hin2 : ¬ ((q : Int) + 1) < 1 + q := by omega
      have hmany : Calls Tryd.prog 8 #[.slice (some ⟨gc, 0, none⟩) (q + 1) cc] wo (NewM (q + 1) cb wo) := by
        obtain ⟨a1, c1, e1, _, _, _, e5, _⟩ := Sl1.ofOwns hownc
        cases e1
        exact many_any wo _ cc (q + 1) cb e5 (by omega) (by omega)
      have Hmany := Lib.hid hmany
      have Hcur := Lib.hid hcur
      have Hsep := Lib.hid hsep
      have hwo := hbo.size
      clear hmany hcur hsep hownc
      go_wp2_with fail
      refine Hmany.out.mono ?_
      rintro e w4 ⟨mm, mb, mo, mc, rfl, hmm, hmb, hM, hb4⟩
      have hs4 := hb4.size
      have hM0 := hM.blk.lt
      have hw4 : Below w3.heap.size w3 w4 := hbo.trans (hb4.mono hwo)
      have hC0 : CursL w4 (q + 1) cb gb (fun j => partL (cls parts (q + 1)) j 0 (all.drop 0)) := Hcur.out.below hb4
      have hcbl : ∀ j, j < q + 1 → cb j < wo.heap.size := fun j hj => (Hcur.out.cur j hj).lt
      have HM := Lib.hid hM
      have HC0 := Lib.hid hC0
      have Hcbl := Lib.hid hcbl
      clear hM hC0 hcbl
      go_wp2_with fail
      go_loopw [69] (fun s69 wr => ∃ k : Nat, k ≤ m ∧ s69 = .int .i64 k ∧ CursL wr (q + 1) cb gb (fun j => partL (cls parts (q + 1)) j k (all.drop k)) ∧ ManyA wr mm mb mo mc (q + 1) cb ∧ Chg (fun b => ∃ j, j < q + 1 ∧ b = cb j) w4 wr) (fun s69 _ => m - (intOf s69).toNat)
      case atStart => exact ⟨0, by omega, rfl, HC0.out, HM.out, Chg.refl _ _⟩
      case round =>
        obtain ⟨k, hk, rfl, hcur, hmany, hchg⟩ := hrel
        have hwr := hchg.size
        by_cases hkm : k < m
        · have hkl : k < all.length := by rw [← Hm.out]; exact hkm
          obtain ⟨x, hx⟩ : ∃ x, all[k]? = some x := ⟨_, List.getElem?_eq_getElem hkl⟩
          obtain ⟨g', o', e1, _, hr0⟩ := Hsl3.out k x hx
          cases e1
          have hb3r : Below w3.heap.size w3 wr := hw4.trans (hchg.toBelow (by omega) (fun b hb ⟨j, hj, e⟩ => by have := (Hsep.out j hj).1; omega))
          have hr := rangeAt_below hr0 hb3r hg3'
          rw [Nat.zero_add] at hr
          have q0 : wr.cell? ⟨g, k * 4, none⟩ = some (.string x.key) := by have := hr 0 _ rfl; simpa using this
          have q1 : wr.cell? ⟨g, k * 4 + 1, none⟩ = some (.int .u64 x.seq) := hr 1 _ rfl
          have q2 : wr.cell? ⟨g, k * 4 + 2, none⟩ = some (.bool x.del) := hr 2 _ rfl
          have q3 : wr.cell? ⟨g, k * 4 + 3, none⟩ = some (.string x.val) := hr 3 _ rfl
          have hkm' : (k : Int) < m := by omega
          have hk0 : (0 : Int) ≤ k := by omega
          have hdr : all.drop k = x :: all.drop (k + 1) := by
            rw [List.drop_eq_getElem_cons hkl]
            rw [List.getElem?_eq_getElem hkl] at hx
            cases hx; rfl
          have hnext : Calls Tryd.prog 9 #[.pointer (some ⟨mm, 0, none⟩)] (wr.alloc x.obj) fun e w' => e = .returned (.tuple #[x.v, .bool true, .int .i64 0]) ∧ CursL w' (q + 1) cb gb (fun j => partL (cls parts (q + 1)) j (k + 1) (all.drop (k + 1))) ∧ Chg (fun b => b = cb (cls parts (q + 1) k)) (wr.alloc x.obj) w' := by
            have hba : Below wr.heap.size wr (wr.alloc x.obj) := (Below.refl _ _).alloc (Nat.le_refl _) _
            have hs : Sorted (x :: all.drop (k + 1)) := by
              rw [← hdr]
              exact List.Pairwise.sublist (List.drop_sublist k all) Hsort.out
            rw [hdr] at hcur
            have hlt := cls_lt parts (q + 1) k (by omega)
            refine (next_many_some _ mm mb mo mc (q + 1) cb gb _ (hmany.below hba) (hcur.below hba) (fun i y hi hy => Haok.out y (List.mem_of_mem_drop (by rw [hdr]; exact partL_mem _ _ hy))) (by omega) (cls parts (q + 1) k) x (partL (cls parts (q + 1)) (cls parts (q + 1) k) (k + 1) (all.drop (k + 1))) hlt ((bestOf_part hs (q + 1)).1 hlt) partL_same).mono fun e w' hp => ⟨hp.1, ?_, hp.2.2⟩
            have := hp.2.1
            rw [remTail_part] at this
            exact this
          have Hnext := Lib.hid hnext
          have Hmany2 := Lib.hid hmany
          clear hx hr hr0 hdr hnext hcur hmany
          go_wp2_with fail
          refine Hnext.out.mono ?_
          rintro e w5 ⟨rfl, hcur5, hch5⟩
          have hs5 := hch5.size
          have hs5' : wr.heap.size < w5.heap.size := by simp at hs5; omega
          have hcls := cls_lt parts (q + 1) k (by omega)
          have hwx : ∀ j, j < q + 1 → cb j < wr.heap.size := fun j hj => by have := Hcbl.out j hj; omega
          have hX := (Blk.new wr x.cs.toArray 30).chg hch5 (fun e => by have := hwx _ hcls; omega)
          obtain ⟨p0, p1, p2, p3, fp⟩ := hX.four
          have hneq : ∀ W, (binOp .neq 30 x.v x.v).run Tryd.prog W = .ok (.bool false) W := fun W => by rw [run_neqE, eqEB_self]; rfl
          have hgd : ∀ (a b : Operand) (W : World), (eqGuard .neq 30 a b x.v x.v).run Tryd.prog W = .ok () W := fun a b W => run_guardE _ _ _ _ _ W
          have Hfin : Hid (CursL (w5.alloc x.obj) (q + 1) cb gb (fun j => partL (cls parts (q + 1)) j (k + 1) (all.drop (k + 1)))) := Lib.hid (hcur5.below ((Below.refl _ _).alloc (Nat.le_refl _) _))
          have hchx : Chg (fun b => ∃ j, j < q + 1 ∧ b = cb j) w4 (w5.alloc x.obj) := ((hchg.alloc _).trans hch5 (fun j _ e => ⟨_, hcls, e⟩)).alloc _
          have hMx : ManyA (w5.alloc x.obj) mm mb mo mc (q + 1) cb := HM.out.chg hchx (fun ⟨j, hj, e⟩ => by have := Hcbl.out j hj; omega) (fun ⟨j, hj, e⟩ => by have := Hcbl.out j hj; omega)
          have Hchx := Lib.hid hchx
          have HMx := Lib.hid hMx
          clear hcur5 hchx hMx hwx hX
          go_wp2
          go_roundw
          case rel => exact ⟨k + 1, by omega, by go_num, Hfin.out, HMx.out, Hchx.out⟩
          case measure => simp [intOf]; omega
        · obtain rfl : k = m := by omega
          have hkm' : ¬ (k : Int) < k := by omega
          have hnext : Calls Tryd.prog 9 #[.pointer (some ⟨mm, 0, none⟩)] wr fun e w' => e = .returned (.tuple #[zeroE.v, .bool false, .int .i64 0]) ∧ Below wr.heap.size wr w' := by
            have hdr : all.drop k = [] := List.drop_eq_nil_of_le (by rw [← Hm.out]; exact Nat.le_refl _)
            rw [hdr] at hcur
            exact next_many_none wr mm mb mo mc (q + 1) cb gb _ hmany hcur (fun i y hi hy => by simp [partL] at hy) (by omega) (bestOf_none (q + 1))
          have hb3r : Below w3.heap.size w3 wr := hw4.trans (hchg.toBelow (by omega) (fun b hb ⟨j, hj, e⟩ => by have := (Hsep.out j hj).1; omega))
          have Hnext := Lib.hid hnext
          clear hnext hcur hmany
          go_wp2_with fail
          refine Hnext.out.mono ?_
          rintro e w5 ⟨rfl, hb5⟩
          go_wp2
          go_ret
          exact ⟨rfl, (hb3'.trans ((hb3r.trans (hb5.mono hb3r.size)).mono hb3'.size)).alloc (by have := hb3r.size; have := hb3'.size; have := hb5.size; omega) _⟩
end Go.Proofs.YtnmpiobgdnfmjaaDoor
