/- The contract of sha.Sum: the digest of bytes, as plain functions. -/
import Derived.Test.YtaknoodgpkdhbaaDoorStep
import Derived.Outline
import Derived.Laws.CopyOwn
namespace Go.Proofs.YtaknoodgpkdhbaaDoor
open Go.RowKit

def u32c (f : Nat → Int) (j : Nat) : Value := .int .u32 (f j)
def u8c (f : Nat → Int) (j : Nat) : Value := .int .u8 (f j)

/-- the state behind k blocks of 64 bytes -/
def blkF (ad fi bs : Nat → Int) : Nat → Nat → Int
  | 0 => fi
  | k + 1 => stepF ad (blkF ad fi bs k) (fun j => bs (64 * k + j))

structure SumW (w wr : World) (s : Nat → Int) : Prop where
  ro : Row wr w.heap.size 0 32 (u8c fun _ => 0)
  fo : Free wr w.heap.size
  rs : Row wr (w.heap.size + 1) 0 8 (u32c s)
  fs : Free wr (w.heap.size + 1)
  bl : Below w.heap.size w wr
  sz : w.heap.size + 2 ≤ wr.heap.size

def e0F (bs : Nat → Int) (k n j : Nat) : Int := if j < n then bs (64 * k + j) else 0
def szF (n : Nat) : Nat := if n < 56 then 64 else 128
def lbF (len i : Nat) : Int := ((len : Int) * 8 / 2 ^ (8 * i)) % 256
def eL (bs : Nat → Int) (k n S len : Nat) : Nat → Nat → Int
  | 0, j => if j = n then 128 else e0F bs k n j
  | i + 1, j => if j = S - 1 - i then lbF len i else eL bs k n S len i j
theorem eL_bd {bs : Nat → Int} (hB : ∀ j, 0 ≤ bs j ∧ bs j ≤ 255) {k n S len : Nat} (i : Nat) : ∀ j, 0 ≤ eL bs k n S len i j ∧ eL bs k n S len i j ≤ 255 := by
  induction i with
  | zero =>
    intro j
    unfold eL e0F
    have := hB (64 * k + j)
    split
    · omega
    · split <;> omega
  | succ i ih =>
    intro j
    unfold eL lbF
    split
    · omega
    · exact ih j
def finF (ad s e : Nat → Int) : Nat → Nat → Int
  | 0 => s
  | m + 1 => stepF ad (finF ad s e m) (fun j => e (64 * m + j))
def outF (t : Nat → Int) (i j : Nat) : Int := if j < i then (t (j / 4) / 2 ^ (24 - 8 * (j % 4))) % 256 else 0
/-- the digest of len bytes -/
def shaF (ad fi bs : Nat → Int) (len : Nat) : Nat → Int :=
  outF (finF ad (blkF ad fi bs (len / 64)) (eL bs (len / 64) (len % 64) (szF (len % 64)) len 8) (szF (len % 64) / 64)) 32
/-- a digest's value -/
def agg32 (f : Nat → Int) : Value := .agg (lst 32 (u8c f)).toArray
abbrev z32 : Obj := Obj.cells #[Value.int IntKind.u8 0, Value.int IntKind.u8 0, Value.int IntKind.u8 0, Value.int IntKind.u8 0, Value.int IntKind.u8 0, Value.int IntKind.u8 0, Value.int IntKind.u8 0, Value.int IntKind.u8 0, Value.int IntKind.u8 0, Value.int IntKind.u8 0, Value.int IntKind.u8 0, Value.int IntKind.u8 0, Value.int IntKind.u8 0, Value.int IntKind.u8 0, Value.int IntKind.u8 0, Value.int IntKind.u8 0, Value.int IntKind.u8 0, Value.int IntKind.u8 0, Value.int IntKind.u8 0, Value.int IntKind.u8 0, Value.int IntKind.u8 0, Value.int IntKind.u8 0, Value.int IntKind.u8 0, Value.int IntKind.u8 0, Value.int IntKind.u8 0, Value.int IntKind.u8 0, Value.int IntKind.u8 0, Value.int IntKind.u8 0, Value.int IntKind.u8 0, Value.int IntKind.u8 0, Value.int IntKind.u8 0, Value.int IntKind.u8 0] 25
theorem row_of_heap {w : World} {E n : Nat} {l : List Value} {t : TypeId} {f : Nat → Value} (h : w.heap[E]? = some (.cells l.toArray t (0, 0))) (hf : ∀ j, j < n → l[j]? = some (f j)) : Row w E 0 n f ∧ Free w E := by
  refine ⟨fun j hj => ?_, fun j => ?_⟩
  · rw [Nat.zero_add]
    simp [World.cell?, h, hf j hj]
  · simp [World.frozen?, h]
theorem szF_lo (n : Nat) (h : n < 64) : n + 8 < szF n := by unfold szF; split <;> omega
theorem szF_hi (n : Nat) : szF n ≤ 128 := by unfold szF; split <;> omega

theorem SumW.other {w wr : World} {s : Nat → Int} (h : SumW w wr s) {b : Nat} (hb : w.heap.size + 2 ≤ b) (o : Nat) (v : Value) : SumW w (wr.setCell ⟨b, o, none⟩ v) s :=
  ⟨h.ro.other (by omega) _, h.fo.set _ _, h.rs.other (by omega) _, h.fs.set _ _, h.bl.setCell (by show _ ≤ b; omega) _, by have := h.sz; simpa [World.setCell] using this⟩

theorem zeros32 (wr : World) (t : Nat → Int) : Row (wr.alloc z32) wr.heap.size 0 32 (u8c (outF t 0)) ∧ Free (wr.alloc z32) wr.heap.size := by
  refine ⟨Row.new wr _ _ _ _ ?_, Free.new wr _ _⟩
  intro j hj
  have : u8c (outF t 0) j = .int .u8 0 := by unfold u8c outF; rw [if_neg (by omega)]
  rw [this]
  match j, hj with
  | 0, _ | 1, _ | 2, _ | 3, _ | 4, _ | 5, _ | 6, _ | 7, _ | 8, _ | 9, _ | 10, _ | 11, _ | 12, _ | 13, _ | 14, _ | 15, _
  | 16, _ | 17, _ | 18, _ | 19, _ | 20, _ | 21, _ | 22, _ | 23, _ | 24, _ | 25, _ | 26, _ | 27, _ | 28, _ | 29, _ | 30, _ | 31, _ => rfl
  | j + 32, h => omega

theorem start_SumW (w : World) (fi : Nat → Int) : SumW w ((w.alloc
      z32).alloc
  (Obj.cells
    #[Value.int IntKind.u32 (fi 0), Value.int IntKind.u32 (fi 1), Value.int IntKind.u32 (fi 2),
      Value.int IntKind.u32 (fi 3), Value.int IntKind.u32 (fi 4), Value.int IntKind.u32 (fi 5),
      Value.int IntKind.u32 (fi 6), Value.int IntKind.u32 (fi 7)]
    52)) fi := by
  refine ⟨(Row.new w _ _ _ _ ?_).alloc (by simp) _, (Free.new w _ _).alloc (by simp) _, ?_, ?_, ((Below.refl _ _).alloc (Nat.le_refl _) _).alloc (by simp) _, by simp⟩
  · intro j hj
    match j, hj with
    | 0, _ | 1, _ | 2, _ | 3, _ | 4, _ | 5, _ | 6, _ | 7, _ | 8, _ | 9, _ | 10, _ | 11, _ | 12, _ | 13, _ | 14, _ | 15, _
    | 16, _ | 17, _ | 18, _ | 19, _ | 20, _ | 21, _ | 22, _ | 23, _ | 24, _ | 25, _ | 26, _ | 27, _ | 28, _ | 29, _ | 30, _ | 31, _ => rfl
    | j + 32, h => omega
  · have := Row.new (w.alloc z32) #[Value.int IntKind.u32 (fi 0), Value.int IntKind.u32 (fi 1), Value.int IntKind.u32 (fi 2),
      Value.int IntKind.u32 (fi 3), Value.int IntKind.u32 (fi 4), Value.int IntKind.u32 (fi 5),
      Value.int IntKind.u32 (fi 6), Value.int IntKind.u32 (fi 7)] 52 (u32c fi) 8 (fun j hj => by
        rcases lt8 hj with rfl | rfl | rfl | rfl | rfl | rfl | rfl | rfl <;> rfl)
    rwa [World.size_alloc] at this
  · intro j; go_simp

set_option maxRecDepth 100000 in
set_option maxHeartbeats 2000000 in
theorem sum_any (bs fi ad : Nat → Int) (b off len cap : Nat) (w : World) (hb : b < w.heap.size) (h0 : 0 < len) (hl : len ≤ cap) (hcap : len ≤ 140737488351232)
   (h1 : 1 < w.heap.size) (hA : ∀ j, j < 64 → w.cell? ⟨1, j, none⟩ = some (.int .u32 (ad j))) (hF : ∀ j, j < 8 → w.cell? ⟨0, j, none⟩ = some (.int .u32 (fi j)))
   (hbs : ∀ j, j < len → w.cell? ⟨b, off + j, none⟩ = some (.int .u8 (bs j))) (hB : ∀ j, 0 ≤ bs j ∧ bs j ≤ 255) :
    Calls Tryd.prog 10 #[.slice (some ⟨b, off, none⟩) len cap] w fun e w' => e = .returned (agg32 (shaF ad fi bs len)) ∧ Below w.heap.size w w' := by
  have h00 : 0 < w.heap.size := by omega
  have F0 := hF 0 (by omega)
  have F1 := hF 1 (by omega)
  have F2 := hF 2 (by omega)
  have F3 := hF 3 (by omega)
  have F4 := hF 4 (by omega)
  have F5 := hF 5 (by omega)
  have F6 := hF 6 (by omega)
  have F7 := hF 7 (by omega)
  go_enter Tryd.func10, Tryd.ntmps10
  go_wp2
  go_loopw [4] (fun v wr => ∃ k o n c : Nat, Hid (n + 64 * k = len) ∧ Hid (c + 64 * k = cap) ∧ v = .slice (some ⟨b, o, none⟩) n c ∧ Hid (0 < n → o = off + 64 * k) ∧ SumW w wr (blkF ad fi bs k)) (fun v _ => lenOf v)
  case atStart => exact ⟨0, off, len, cap, Lib.hid (by omega), Lib.hid (by omega), rfl, Lib.hid (fun _ => by omega), start_SumW w fi⟩
  case round =>
    obtain ⟨k, o, n, c, Hn, Hc, rfl, Ho, h⟩ := hrel
    by_cases hn : 64 ≤ n
    · obtain ⟨c0, c1, c2, c3, c4, c5, c6, c7⟩ := h.rs.eight
      unfold u32c at c0 c1 c2 c3 c4 c5 c6 c7
      have nn : n ≤ c := by have := Hn.out; have := Hc.out; omega
      have Hs : Hid (blkF ad fi bs (k + 1) = stepF ad (blkF ad fi bs k) (fun j => bs (64 * k + j))) := Lib.hid rfl
      generalize blkF ad fi bs k = s at *
      have n64 : (64 : Int) ≤ (n : Int) := by omega
      have n64' : (64 : Int) ≤ (c : Int) := by omega
      go_wp2_with fail
      have hsz := h.sz
      refine (step_any s (fun j => bs (64 * k + j)) b o n c _ ?_ ?_ ?_ ad ?_ ?_ ?_).mono ?_
      · omega
      · exact hn
      · omega
      · exact fun j hj => (h.bl.cell (by exact h1)).trans (hA j hj)
      · intro j hj
        rw [Ho.out (by omega), Nat.add_assoc]
        exact (h.bl.cell (by exact hb)).trans (hbs _ (by have := Hn.out; omega))
      · exact fun j => hB _
      · rintro e w1 ⟨rfl, hb1⟩
        have rs1 := h.rs.below hb1 (by omega)
        have fs1 := h.fs.below hb1 (by omega)
        generalize stepF ad s (fun j => bs (64 * k + j)) = s1 at *
        unfold agg8
        obtain ⟨d0, d1, d2, d3, d4, d5, d6, d7⟩ := rs1.eight
        obtain ⟨g0, g1, g2, g3, g4, g5, g6, g7⟩ := fs1.eight
        clear c0 c1 c2 c3 c4 c5 c6 c7
        go_wp2
        go_roundw
        case rel =>
          refine ⟨k + 1, if c = 64 then o else o + 64, n - 64, c - 64, Lib.hid (by have := Hn.out; omega), Lib.hid (by have := Hc.out; omega), by split <;> rfl, Lib.hid (fun h0 => ?_), ?_⟩
          · rw [if_neg (by omega), Ho.out (by omega)]; omega
          · rw [Hs.out]
            exact ⟨(h.ro.below hb1 (by omega)).other8 (by omega) (u32c s1), (h.fo.below hb1 (by omega)).set8 _ (u32c s1), rs1.set8 (u32c s1), fs1.set8 _ (u32c s1), below_set8 (h.bl.trans (hb1.mono (by omega))) (by omega) (u32c s1),
              by have := hb1.size; simp [World.setCell]; omega⟩
        case measure => simp only [lenOf]; omega
    · have n64 : (n : Int) < 64 := by omega
      have n0 : 0 ≤ (n : Int) := by omega
      obtain ⟨s, hs⟩ : ∃ s, s = blkF ad fi bs k := ⟨_, rfl⟩
      rw [← hs] at h
      have Hs := Lib.hid hs
      clear hs
      go_upto_region 5 with fail
      go_cut [5] (fun v wx => ∃ (E : Nat) (zs : List Value), v = .pointer (some ⟨E, 0, none⟩) ∧ Hid (zs = List.replicate 128 (Value.int .u8 0)) ∧ Hid (wx.heap[E]? = some (.cells zs.toArray 54 (0, 0))) ∧ w.heap.size + 2 ≤ E ∧ E < wx.heap.size ∧ SumW w wx s)
      case first =>
        obtain ⟨zs, hzs, hz⟩ : ∃ zs : List Value, Hid (zs = List.replicate 128 (Value.int .u8 0)) ∧ ∀ W, (zeroValue 54).run Tryd.prog W = .ok (.agg zs.toArray) W := ⟨_, Lib.hid rfl, fun _ => by kernel_rfl⟩
        go_wp2
        go_meet
        have hsz := h.sz
        exact ⟨wr.heap.size, zs, rfl, hzs, Lib.hid (heap_alloc_new _ _), hsz, by simp, ⟨h.ro.alloc (by omega) _, h.fo.alloc (by omega) _, h.rs.alloc (by omega) _, h.fs.alloc (by omega) _, h.bl.alloc (by omega) _, by simp; omega⟩⟩
      case rest =>
        obtain ⟨E, zs, rfl, Hz, HE, hE1, hE2, h'⟩ := hcut
        obtain ⟨cs, hcs⟩ : ∃ cs, cs = (List.range n).map fun j => u8c bs (64 * k + j) := ⟨_, rfl⟩
        have hcl : cs.length = n := by rw [hcs]; simp
        have HL := Lib.hid hcl
        have hsrc : ∀ (j : Nat) v, cs[j]? = some v → wc.cell? ((⟨b, o, none⟩ : Addr).add j) = some v := by
          intro j v hv
          have hj : j < n := by rw [← hcl]; exact (List.getElem?_eq_some_iff.1 hv).1
          rw [hcs, List.getElem?_map, List.getElem?_range hj] at hv
          simp only [Option.map_some, Option.some.injEq] at hv
          subst hv
          rw [show (⟨b, o, none⟩ : Addr).add j = ⟨b, o + j, none⟩ by simp [Addr.add]]
          rw [Ho.out (by omega), Nat.add_assoc]
          exact (h'.bl.cell (by exact hb)).trans (hbs _ (by have := Hn.out; omega))
        have Hcs := Lib.hid hcs
        have Hsrc := Lib.hid hsrc
        have hone : ∀ v ∈ cs, v.oneCell' = true := by
          intro v hv
          rw [hcs, List.mem_map] at hv
          obtain ⟨j, _, rfl⟩ := hv
          rfl
        have Hone := Lib.hid hone
        have hrow : ∀ w2 : World, w2.heap[E]? = some (.cells (splice zs 0 cs).toArray 54 (0, 0)) → Row w2 E 0 128 (u8c (e0F bs k n)) ∧ Free w2 E := by
          intro w2 h2
          refine row_of_heap h2 (fun j hj => ?_)
          unfold splice
          rw [List.take_zero, List.nil_append, Nat.zero_add, hcl, hcs, Hz.out]
          unfold u8c e0F
          by_cases hjn : j < n
          · rw [List.getElem?_append_left (by simpa using hjn), List.getElem?_map, List.getElem?_range hjn, if_pos hjn]
            rfl
          · rw [List.getElem?_append_right (by simpa using hjn), List.getElem?_drop, List.getElem?_replicate, if_pos (by simp; omega), if_neg hjn]
        have Hrow := Lib.hid hrow
        have hfit : 0 + cs.length ≤ zs.length := by rw [Hz.out, List.length_replicate]; omega
        have Hfit := Lib.hid hfit
        have hmin : cs.length = Nat.min n 128 := by rw [hcl]; exact (Nat.min_eq_left (by omega)).symm
        have Hmin := Lib.hid hmin
        clear hcs hcl hsrc hone hfit hmin hrow
        go_upto_if 25 with (refine wpList_copy_splice rfl (.tmp 22) (.tmp 23) 34 34 rfl 5 Tryd.underlying34 (by kernel_rfl) (some ⟨E, 0, none⟩) (some ⟨b, o, none⟩) 128 128 n c rfl rfl E 0 zs 54 HE.out cs Hmin.out (fun _ => ⟨rfl, ⟨b, o, none⟩, rfl, Hsrc.out⟩) Hfit.out Hone.out E wc (Below.refl _ _) (Nat.le_refl _) ?_; intro w2 HE2 hb2)
        go_cut [6] (fun v wx => v = .int .i64 (szF n) ∧ wx = w2)
        case first =>
          have hle := HL.out
          by_cases h56 : n < 56
          · have : (cs.length : Int) < 56 := by omega
            go_wp2
            go_meet
            exact ⟨by unfold szF; rw [if_pos h56]; rfl, rfl⟩
          · have : 56 ≤ (cs.length : Int) := by omega
            go_wp2
            go_meet
            exact ⟨by unfold szF; rw [if_neg h56]; rfl, rfl⟩
        case rest =>
          obtain ⟨rfl, rfl⟩ := hcut
          have hS1 := szF_lo n (by omega)
          have hS2 := szF_hi n
          have HSz : Hid (szF n = 64 ∨ szF n = 128) := Lib.hid (by unfold szF; split <;> simp)
          obtain ⟨S, hS⟩ : ∃ S, S = szF n := ⟨_, rfl⟩
          rw [← hS] at hS1 hS2 HSz ⊢
          have HS := Lib.hid hS
          clear hS
          obtain ⟨R2, F2⟩ := Hrow.out _ HE2.out
          have ce := R2.at n (by omega)
          unfold u8c at ce
          have fe := F2 n
          have n128 : (n : Int) < 128 := by omega
          have L0 : 0 ≤ (len : Int) := by omega
          have L1 : (len : Int) ≤ 140737488351232 := by omega
          have hsz := h'.sz
          have h2 : SumW w wc s := ⟨h'.ro.below hb2 (by omega), h'.fo.below hb2 (by omega), h'.rs.below hb2 (by omega), h'.fs.below hb2 (by omega), h'.bl.trans (hb2.mono (by omega)), by have := hb2.size; omega⟩
          have hE3 : E < wc.heap.size := by have := hb2.size; omega
          go_wp2
          go_loopw [7] (fun v wr => ∃ i : Nat, i ≤ 8 ∧ v = .int .i64 i ∧ Row wr E 0 128 (u8c (eL bs k n S len i)) ∧ Free wr E ∧ SumW w wr s ∧ E < wr.heap.size) (fun v _ => 8 - (intOf v).toNat)
          case atStart => exact ⟨0, by omega, rfl, (R2.set0 (by omega) _).congr (fun j _ => by unfold u8c eL; split <;> rfl), F2.set _ _, h2.other (by omega) _ _, by simp [World.setCell]; omega⟩
          case round =>
            obtain ⟨i, hi, rfl, RE, FE, h3, hE4⟩ := hrel
            by_cases hi8 : i < 8
            · have Hnx : Hid (∀ j, eL bs k n S len (i + 1) j = if j = S - 1 - i then lbF len i else eL bs k n S len i j) := Lib.hid (fun _ => rfl)
              generalize eL bs k n S len i = e at *
              have ci := RE.at (S - 1 - i) (by omega)
              unfold u8c at ci
              have fi' := FE (S - 1 - i)
              have i0 : 0 ≤ (i : Int) := by omega
              have i1 : (i : Int) < 8 := by omega
              have S0 : 9 ≤ (S : Int) := by omega
              go_wp2
              go_roundw
              case rel =>
                refine ⟨i + 1, by omega, by go_num, (RE.set0 (by omega) _).congr (fun j _ => ?_), FE.set _ _, h3.other (by omega) _ _, by simp [World.setCell]; omega⟩
                unfold u8c
                rw [Hnx.out]
                split <;> rfl
              case measure => simp [intOf]; omega
            · have hi8' : 8 ≤ (i : Int) := by omega
              have He : Hid (eL bs k n S len i = eL bs k n S len 8) := Lib.hid (by rw [show i = 8 by omega])
              have hEb : ∀ j, 0 ≤ eL bs k n S len i j ∧ eL bs k n S len i j ≤ 255 := eL_bd hB i
              have Heb := Lib.hid hEb
              clear hEb
              generalize eL bs k n S len i = e at *
              go_wp2
              go_loopw [9] (fun v wr => ∃ m p : Nat, v = .int .i64 p ∧ Hid (p = 64 * m) ∧ p ≤ S ∧ Row wr E 0 128 (u8c e) ∧ Free wr E ∧ SumW w wr (finF ad s e m) ∧ E < wr.heap.size) (fun v _ => 128 - (intOf v).toNat)
              case atStart => exact ⟨0, 0, rfl, Lib.hid rfl, by omega, RE, FE, h3, hE4⟩
              case round =>
                obtain ⟨m, p, rfl, Hp, hpS, RE, FE, h4, hE5⟩ := hrel
                by_cases hp : p < S
                · have hp1 : (p : Int) < (S : Int) := by omega
                  have p0 : 0 ≤ (p : Int) := by omega
                  have p128 : (p : Int) ≤ 128 := by omega
                  have hS128 : (S : Int) ≤ 128 := by omega
                  have hp64 : p + 64 ≤ 128 := by have := Hp.out; rcases HSz.out with h | h <;> omega
                  have Hnx : Hid (finF ad s e (m + 1) = stepF ad (finF ad s e m) (fun j => e (64 * m + j))) := Lib.hid rfl
                  generalize finF ad s e m = t at *
                  obtain ⟨c0, c1, c2, c3, c4, c5, c6, c7⟩ := h4.rs.eight
                  unfold u32c at c0 c1 c2 c3 c4 c5 c6 c7
                  go_wp2
                  refine wp_region_drawn_tail 3 (by kernel_rfl) (by kernel_rfl) ?_
                  simp only [List.take_succ_cons, List.take_zero, List.drop_succ_cons, List.drop_zero]
                  repeat (quiet_step (fail))
                  refine wpQuiet_nil ?_
                  intro _ hw'
                  obtain ⟨nr, hw''⟩ := hw'
                  subst hw''
                  go_wp2_with fail
                  have hszw := h4.sz
                  refine (step_any t (fun j => e (64 * m + j)) E p (128 - p) (128 - p) _ ?_ ?_ ?_ ad ?_ ?_ ?_).mono ?_
                  · exact hE5
                  · omega
                  · show 1 < wr.heap.size; omega
                  · exact fun j hj => (h4.bl.cell (by exact h1)).trans (hA j hj)
                  · intro j hj
                    have := RE (p + j) (by omega)
                    rw [Nat.zero_add] at this
                    rw [← Hp.out]
                    exact this
                  · exact fun j => Heb.out _
                  · rintro x w1 ⟨rfl, hb1⟩
                    have hb1 : Below wr.heap.size (wr.drewN nr) w1 := hb1
                    have rs1 := (h4.rs.drewN nr).below hb1 (by omega)
                    have fs1 := (h4.fs.drewN nr).below hb1 (by omega)
                    generalize stepF ad t (fun j => e (64 * m + j)) = s1 at *
                    unfold agg8
                    obtain ⟨d0, d1, d2, d3, d4, d5, d6, d7⟩ := rs1.eight
                    obtain ⟨g0, g1, g2, g3, g4, g5, g6, g7⟩ := fs1.eight
                    clear c0 c1 c2 c3 c4 c5 c6 c7
                    go_wp2
                    go_roundw
                    case rel =>
                      refine ⟨m + 1, p + 64, by go_num, Lib.hid (by have := Hp.out; omega), by have := Hp.out; rcases HSz.out with h | h <;> omega, ((RE.drewN nr).below hb1 hE5).other8 (by omega) (u32c s1), ((FE.drewN nr).below hb1 hE5).set8 _ (u32c s1), ?_, by have := hb1.size; simp [World.setCell]; have : wr.heap.size ≤ w1.heap.size := this; omega⟩
                      rw [Hnx.out]
                      exact ⟨((h4.ro.drewN nr).below hb1 (by omega)).other8 (by omega) (u32c s1), ((h4.fo.drewN nr).below hb1 (by omega)).set8 _ (u32c s1), rs1.set8 (u32c s1), fs1.set8 _ (u32c s1), below_set8 ((below_drewN' h4.bl nr).trans (hb1.mono (by omega))) (by omega) (u32c s1),
                        by have := hb1.size; simp [World.setCell]; have : wr.heap.size ≤ w1.heap.size := this; omega⟩
                    case measure => simp [intOf]; omega
                · have hp1 : (S : Int) ≤ (p : Int) := by omega
                  obtain ⟨t, ht⟩ : ∃ t, t = finF ad s e m := ⟨_, rfl⟩
                  rw [← ht] at h4
                  have Ht := Lib.hid ht
                  clear ht
                  go_wp2
                  have hsz4 := h4.sz
                  have h5 : SumW w (wr.alloc z32) t := ⟨h4.ro.alloc (by omega) _, h4.fo.alloc (by omega) _, h4.rs.alloc (by omega) _, h4.fs.alloc (by omega) _, h4.bl.alloc (by omega) _, by simp; omega⟩
                  have hO := zeros32 wr t
                  obtain ⟨O, hOe⟩ : ∃ O, O = wr.heap.size := ⟨_, rfl⟩
                  have HO := Lib.hid hOe
                  rw [← hOe] at hO hsz4 ⊢
                  clear hOe
                  go_loopw [56] (fun v wq => ∃ i : Nat, i ≤ 32 ∧ v = .int .i64 i ∧ Row wq O 0 32 (u8c (outF t i)) ∧ Free wq O ∧ SumW w wq t) (fun v _ => 32 - (intOf v).toNat)
                  case atStart => exact ⟨0, by omega, rfl, hO.1, hO.2, h5⟩
                  case round =>
                    obtain ⟨i, hi, rfl, RO, FO, h6⟩ := hrel
                    by_cases hi32 : i < 32
                    · have ci := RO.at i (by omega)
                      have ct := h6.rs.at (i / 4) (by omega)
                      unfold u8c at ci
                      unfold u32c at ct
                      have fo := FO i
                      have i0 : 0 ≤ (i : Int) := by omega
                      have i1 : (i : Int) < 32 := by omega
                      go_wp2
                      go_roundw
                      case rel =>
                        refine ⟨i + 1, by omega, by go_num, (RO.set0 (by omega) _).congr (fun j _ => ?_), FO.set _ _, h6.other (by omega) _ _⟩
                        unfold u8c outF
                        by_cases e1 : j = i
                        · subst e1; rw [if_pos (Nat.lt_succ_self j), if_pos rfl]
                        · rw [if_neg e1]
                          by_cases e2 : j < i
                          · rw [if_pos e2, if_pos (by omega)]
                          · rw [if_neg e2, if_neg (by omega)]
                      case measure => simp [intOf]; omega
                    · have hi32' : 32 ≤ (i : Int) := by omega
                      have Hfin : Hid (outF t i = shaF ad fi bs len) := Lib.hid (by
                        have h1 := Hn.out
                        have hk : k = len / 64 := by omega
                        have hn' : n = len % 64 := by omega
                        have hm : m = S / 64 := by have := Hp.out; omega
                        have hi' : i = 32 := by omega
                        unfold shaF
                        rw [Ht.out, hi', hm, HS.out, Hs.out, He.out, ← hk, ← hn', ← HS.out])
                      generalize outF t i = g at *
                      obtain ⟨cs, hcs⟩ : ∃ cs, cs = lst 32 (u8c g) := ⟨_, rfl⟩
                      have hlen : cs.length = 32 := by rw [hcs]; exact lst_length _ _
                      have hrg : wr.rangeAt O 0 cs := by rw [hcs]; exact RO.range
                      have hth : wr.there w.heap.size 0 cs.toArray.size := by simp only [List.size_toArray]; rw [hlen]; exact h6.ro.there h6.fo
                      have hsz : (Tryd.prog.info? 25).map (·.size) = some cs.length := by rw [hlen]; kernel_rfl
                      have hone : cs.toArray.all (·.oneCell') = true := by rw [hcs]; exact one_all fun _ => rfl
                      have Hcs := Lib.hid hcs
                      have Hlen := Lib.hid hlen
                      have Hrg := Lib.hid hrg
                      have Hth := Lib.hid hth
                      have Hsz := Lib.hid hsz
                      have Hone := Lib.hid hone
                      clear hcs hlen hrg hth hsz hone F0 F1 F3 F4 F5 F6 F7
                      go_wp2_with (first
                        | (refine wpList_load_mid rfl 25 (.tmp 10) rfl O 0 rfl cs _ Hrg.out Tryd.underlying25 rfl Hsz.out ?_)
                        | (refine wpList_store_mid rfl 25 (.tmp 2) (.tmp 72) rfl w.heap.size 0 cs.toArray rfl rfl Hth.out (by simpa using Hsz.out) Hone.out ?_))

                      refine bodyPost_ret (results_mid (cs := cs) Tryd.results10 _ _ w.heap.size 0 _ rfl ?_ Tryd.underlying25 rfl Hsz.out) rfl ⟨by rw [Hcs.out, Hfin.out]; rfl, ?_⟩
                      · rw [Hcs.out]; exact (h6.ro.setCells h6.fo (u8c g)).range
                      · exact below_setCells (Nat.le_refl _) _ _ h6.bl
end Go.Proofs.YtaknoodgpkdhbaaDoor
