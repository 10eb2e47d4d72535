/- The law's own 'big', and strings.Repeat at one. -/
import Derived.Test.YtnmpiobgdnfmjaaDoorLive
namespace Go.Proofs.YtnmpiobgdnfmjaaDoor
open Go Go.RowKit

theorem repeat_one (s : ByteArray) (w : World) : Calls Tryd.prog 11 #[.string s, .int .i64 1] w fun e w' => e = .returned (.string s) ∧ w' = w := by
  go_enter Tryd.func11, Tryd.ntmps11
  go_wp2
  go_ret
  exact ⟨rfl, rfl⟩

def bigE (x : Ent) : Bool := decide (200 < x.key.size) || decide (200 < x.val.size)
def bigL (es : List Ent) : Bool := decide (25 < es.length) || es.any bigE
def bigLL (ls : List (List Ent)) : Bool := decide (5 < ls.length) || ls.any bigL

/-- a slice of slices of entries -/
abbrev LL := List (Option Addr × Nat × List Ent)
structure SlLL (w : World) (b o : Nat) (ls : LL) : Prop where
  lt : b < w.heap.size
  at_ : ∀ k q, ls[k]? = some q → w.cell? ⟨b, o + k, none⟩ = some (.slice q.1 q.2.2.length q.2.1) ∧ SlE w q.1 q.2.2 ∧ q.2.2.length ≤ q.2.1 ∧ q.2.1 ≤ 9223372036854775807
theorem SlLL.below {w w' : World} {b o : Nat} {ls : LL} (h : SlLL w b o ls) (hb : Below w.heap.size w w') : SlLL w' b o ls := ⟨Nat.lt_of_lt_of_le h.lt hb.size, fun k q hq => by
  obtain ⟨h3, h4, h5⟩ := h.at_ k q hq
  exact ⟨(hb.cell (p := ⟨b, o + k, none⟩) h.lt).trans h3, h4.below' hb, h5⟩⟩

def LLs (ls : LL) : List (List Ent) := ls.map (·.2.2)
def BigPost (ls : LL) (w : World) (e : Ending) (w' : World) : Prop := e = .returned (.bool (bigLL (LLs ls))) ∧ Below w.heap.size w w'

theorem any_take_succ {α : Type} (p : α → Bool) (l : List α) (k : Nat) (x : α) (h : l[k]? = some x) : (l.take (k + 1)).any p = ((l.take k).any p || p x) := by
  rw [List.take_add_one, h]
  simp [List.any_append]

set_option maxRecDepth 100000 in
set_option maxHeartbeats 4000000 in
theorem big_any (w : World) (b o cp : Nat) (ls : LL) (h : SlLL w b o ls) (hok : ∀ q, q ∈ ls → ∀ x, x ∈ q.2.2 → x.ok) (hcap : ls.length ≤ cp) (_hcp : cp ≤ 9223372036854775807) :
    Calls Tryd.prog 5 #[.slice (some ⟨b, o, none⟩) ls.length cp] w (BigPost ls w) := by
  obtain ⟨n, hn⟩ : ∃ n, n = ls.length := ⟨_, rfl⟩
  rw [← hn] at hcap ⊢
  have hcap' : (n : Int) ≤ cp := by omega
  by_cases h5 : 5 < n
  · have h5' : (5 : Int) < n := by omega
    have hpost : bigLL (LLs ls) = true := by unfold bigLL LLs; rw [List.length_map, ← hn, decide_eq_true h5]; rfl
    have Hp := Lib.hid hpost
    clear hpost hn
    go_enter Tryd.func5, Tryd.ntmps5
    go_wp2
    go_ret
    exact ⟨by rw [Hp.out]; rfl, Below.refl _ _⟩
  have h5' : (n : Int) ≤ 5 := by omega
  have Hn := Lib.hid hn
  clear hn
  have hpost : bigLL (LLs ls) = ls.any fun q => bigL q.2.2 := by unfold bigLL LLs; rw [List.length_map, ← Hn.out, decide_eq_false h5, List.any_map]; rfl
  have Hp := Lib.hid hpost
  clear hpost
  go_enter Tryd.func5, Tryd.ntmps5
  go_wp2_with fail
  go_loopw [12] (fun i wr => ∃ k : Nat, k ≤ n ∧ i = .int .i64 k ∧ Below w.heap.size w wr ∧ (ls.take k).any (fun q => bigL q.2.2) = false) (fun i _ => n - (intOf i).toNat)
  case atStart => exact ⟨0, Nat.zero_le _, rfl, Below.refl _ _, rfl⟩
  case round =>
    obtain ⟨k, hk, rfl, hb, hany⟩ := hrel
    have Hany := Lib.hid hany
    clear hany
    by_cases hkn : k < n
    · have hkl : k < ls.length := by rw [← Hn.out]; exact hkn
      obtain ⟨q, hq⟩ : ∃ q, ls[k]? = some q := ⟨_, List.getElem?_eq_getElem hkl⟩
      obtain ⟨hcell, hsl, hqc, hqm⟩ := (h.below hb).at_ k q hq
      have hkn' : (k : Int) < n := by omega
      have hk0 : (0 : Int) ≤ k := by omega
      have hqmem : q ∈ ls := List.mem_of_getElem? hq
      have Hq := Lib.hid hq
      clear hq
      obtain ⟨qa, qc, es⟩ := q
      simp only at hcell hsl hqc hqm
      obtain ⟨m, hm⟩ : ∃ m, m = es.length := ⟨_, rfl⟩
      rw [← hm] at hcell hqc
      have hmm : m ≤ 9223372036854775807 := by omega
      obtain ⟨wo, hwo⟩ : ∃ wo, wo = wr := ⟨_, rfl⟩
      subst hwo
      by_cases h25 : 25 < m
      · have h25' : (25 : Int) < m := by omega
        have hp1 : (ls.any fun q => bigL q.2.2) = true := List.any_eq_true.2 ⟨_, hqmem, by unfold bigL; simp only; rw [← hm, decide_eq_true h25]; rfl⟩
        have Hp1 := Lib.hid hp1
        clear hp1 hm
        go_wp2
        go_ret
        exact ⟨by rw [Hp.out, Hp1.out]; rfl, hb⟩
      have h25' : (m : Int) ≤ 25 := by omega
      have Hm := Lib.hid hm
      clear hm
      have hfin : es.any bigE = false → (ls.take (k + 1)).any (fun q => bigL q.2.2) = false := fun he => by
        rw [any_take_succ _ _ _ _ Hq.out, Hany.out]
        unfold bigL
        simp only [Bool.false_or]
        rw [← Hm.out, decide_eq_false h25, he]; rfl
      have Hfin := Lib.hid hfin
      clear hfin
      have hsp : m = 0 ∨ ∃ g p, qa = some ⟨g, p, none⟩ ∧ g < wo.heap.size ∧ ∀ j x, es[j]? = some x → wo.rangeAt g (p + j * 4) x.cs := by
        by_cases h0 : m = 0
        · exact .inl h0
        · right
          have hl0 : 0 < es.length := by rw [← Hm.out]; omega
          obtain ⟨g, p, e1, e2, _⟩ := hsl 0 es[0] (List.getElem?_eq_getElem hl0)
          refine ⟨g, p, e1, e2, fun j x hx => ?_⟩
          obtain ⟨g', p', e3, _, e5⟩ := hsl j x hx
          rw [e1] at e3; cases e3; exact e5
      have hokx : ∀ x, x ∈ es → x.ok := fun x hx => hok _ hqmem x hx
      have Hok := Lib.hid hokx
      have Hmem := Lib.hid hqmem
      clear hokx hqmem
      rcases hsp with rfl | ⟨g, p, rfl, hg, hrg⟩
      · have hes : es = [] := List.length_eq_zero_iff.1 Hm.out.symm
        have Hes := Lib.hid hes
        clear hes
        go_wp2_with fail
        go_loopw [21] (fun i wr => i = .int .i64 0 ∧ wr = wo) (fun _ _ => 0)
        case atStart => exact ⟨rfl, rfl⟩
        case round =>
          obtain ⟨rfl, rfl⟩ := hrel
          go_wp2
          go_roundw
          case rel => exact ⟨k + 1, by omega, by go_num, hb, Hfin.out (by rw [Hes.out]; rfl)⟩
          case measure => simp [intOf]; omega
      · have Hrg := Lib.hid hrg
        clear hrg
        have hmq : (m : Int) ≤ qc := by omega
        go_wp2_with fail
        go_loopw [21] (fun i wr => ∃ j : Nat, j ≤ m ∧ i = .int .i64 j ∧ Below wo.heap.size wo wr ∧ (es.take j).any bigE = false) (fun i _ => m - (intOf i).toNat)
        case atStart => exact ⟨0, Nat.zero_le _, rfl, Below.refl _ _, rfl⟩
        case round =>
          obtain ⟨j, hj, rfl, hb2, hany2⟩ := hrel
          have Hany2 := Lib.hid hany2
          clear hany2
          have hwo2 := hb.size
          have hwo3 := hb2.size
          by_cases hjm : j < m
          · have hjl : j < es.length := by rw [← Hm.out]; exact hjm
            obtain ⟨x, hx⟩ : ∃ x, es[j]? = some x := ⟨_, List.getElem?_eq_getElem hjl⟩
            have hr := rangeAt_below (Hrg.out j x hx) hb2 hg
            have q0 : wr.cell? ⟨g, p + j * 4, none⟩ = some (.string x.key) := by have := hr 0 _ rfl; simpa using this
            have q1 : wr.cell? ⟨g, p + j * 4 + 1, none⟩ = some (.int .u64 x.seq) := hr 1 _ rfl
            have q2 : wr.cell? ⟨g, p + j * 4 + 2, none⟩ = some (.bool x.del) := hr 2 _ rfl
            have q3 : wr.cell? ⟨g, p + j * 4 + 3, none⟩ = some (.string x.val) := hr 3 _ rfl
            have hxm : x ∈ es := List.mem_of_getElem? hx
            obtain ⟨hx0, hx1, hx2, hx3⟩ := Hok.out x hxm
            have Hx := Lib.hid hx
            have Hxm := Lib.hid hxm
            have hjm' : (j : Int) < m := by omega
            have hj0 : (0 : Int) ≤ j := by omega
            clear hx hr hxm
            have hbig : bigE x = true → bigLL (LLs ls) = true := fun hx => by
              rw [Hp.out]
              refine List.any_eq_true.2 ⟨_, Hmem.out, ?_⟩
              unfold bigL
              simp only
              rw [List.any_eq_true.2 ⟨x, Hxm.out, hx⟩, Bool.or_true]
            have Hbig := Lib.hid hbig
            clear hbig
            have hend : Below w.heap.size w (wr.alloc x.obj) := (hb.trans (hb2.mono hwo2)).alloc (by omega) _
            by_cases hB1 : 200 < x.key.size
            · have hB1' : (200 : Int) < x.key.size := by omega
              go_wp2
              go_ret
              exact ⟨by rw [Hbig.out (by unfold bigE; rw [decide_eq_true hB1]; rfl)]; rfl, hend⟩
            have hB1' : (x.key.size : Int) ≤ 200 := by omega
            by_cases hB2 : 200 < x.val.size
            · have hB2' : (200 : Int) < x.val.size := by omega
              go_wp2
              go_ret
              exact ⟨by rw [Hbig.out (by unfold bigE; rw [decide_eq_true hB2, Bool.or_true])]; rfl, hend⟩
            have hB2' : (x.val.size : Int) ≤ 200 := by omega
            go_wp2
            go_roundw
            case rel => exact ⟨j + 1, by omega, by go_num, hb2.alloc hwo3 _, by rw [any_take_succ _ _ _ _ Hx.out, Hany2.out]; unfold bigE; rw [decide_eq_false hB1, decide_eq_false hB2]; rfl⟩
            case measure => simp [intOf]; omega
          · obtain rfl : j = m := by omega
            have hjm' : ¬ (j : Int) < j := by omega
            go_wp2
            go_roundw
            case rel => exact ⟨k + 1, by omega, by go_num, hb.trans (hb2.mono hwo2), Hfin.out (by rw [← List.take_of_length_le (l := es) (i := j) (by rw [← Hm.out]; exact Nat.le_refl _)]; exact Hany2.out)⟩
            case measure => simp [intOf]; omega
    · obtain rfl : k = n := by omega
      have hkn' : ¬ (k : Int) < k := by omega
      go_wp2
      go_ret
      refine ⟨?_, hb⟩
      rw [Hp.out, ← List.take_of_length_le (l := ls) (i := k) (by rw [← Hn.out]; exact Nat.le_refl _), Hany.out]
      rfl
end Go.Proofs.YtnmpiobgdnfmjaaDoor
