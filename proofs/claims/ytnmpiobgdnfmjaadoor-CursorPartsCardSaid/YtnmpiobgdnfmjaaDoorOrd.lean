/- The law's own 'order', each value once. -/
import Derived.Test.YtnmpiobgdnfmjaaDoorBig
import Derived.Deep.DeepCutAuto
import Derived.Deep.CutBlock
namespace Go.Proofs.YtnmpiobgdnfmjaaDoor
open Go Go.RowKit

def atE (x : Ent) (out : List Ent) : Nat := (out.takeWhile fun y => decide (cmpE y x < 0)).length
def sameE (x : Ent) : Option Ent → Bool
  | some y => decide (cmpE y x = 0)
  | none => false
def insE (x : Ent) (out : List Ent) : List Ent := if sameE x out[atE x out]? then out else out.take (atE x out) ++ x :: out.drop (atE x out)
def ordStep (out : List Ent) (x : Ent) : List Ent := if chkE x = 0 then insE x out else out
def ordE (es : List Ent) : List Ent := es.foldl ordStep []

theorem takeWhile_len {α : Type} (p : α → Bool) : ∀ (l : List α) (j : Nat), (∀ i y, i < j → l[i]? = some y → p y = true) → j ≤ l.length → (∀ y, l[j]? = some y → p y = false) → j = (l.takeWhile p).length := by
  intro l
  induction l with
  | nil => intro j _ h _; simp at h ⊢; exact h
  | cons a r ih =>
    intro j h1 h2 h3
    cases j with
    | zero =>
      have := h3 a rfl
      simp [this]
    | succ j =>
      have h0 := h1 0 a (by omega) rfl
      rw [List.takeWhile_cons, h0]
      simp only [if_true, List.length_cons]
      rw [← ih j (fun i y hi hy => h1 (i + 1) y (by omega) (by simpa using hy)) (by simpa using h2) (fun y hy => h3 y (by simpa using hy))]
theorem atE_le (x : Ent) (out : List Ent) : atE x out ≤ out.length := (List.takeWhile_sublist _).length_le
theorem mem_insE {x y : Ent} {out : List Ent} (h : y ∈ insE x out) : y = x ∨ y ∈ out := by
  unfold insE at h
  split at h
  · exact .inr h
  · rcases List.mem_append.1 h with h | h
    · exact .inr (List.mem_of_mem_take h)
    · rcases List.mem_cons.1 h with h | h
      · exact .inl h
      · exact .inr (List.mem_of_mem_drop h)
theorem mem_foldE {y : Ent} : ∀ (es out : List Ent), y ∈ es.foldl ordStep out → y ∈ es ∨ y ∈ out := by
  intro es
  induction es with
  | nil => intro out h; exact .inr h
  | cons x r ih =>
    intro out h
    rcases ih _ h with h | h
    · exact .inl (by simp [h])
    · unfold ordStep at h
      split at h
      · rcases mem_insE h with h | h
        · exact .inl (by simp [h])
        · exact .inr h
      · exact .inr h
theorem mem_ordE {y : Ent} {es : List Ent} (h : y ∈ ordE es) : y ∈ es := by
  rcases mem_foldE es [] h with h | h
  · exact h
  · simp at h

/-- where two heads are laid bare for a comparison -/
abbrev HeadS (W : World) (g p : Nat) (y : Ent) (q : Nat) (x : Ent) (w' : World) : Prop := Below W.heap.size W w' ∧ w'.cell? ⟨g, p, none⟩ = some (.string y.key) ∧ w'.cell? ⟨g, p + 1, none⟩ = some (.int .u64 y.seq) ∧ w'.cell? ⟨g, p + 2, none⟩ = some (.bool y.del) ∧ w'.cell? ⟨g, p + 3, none⟩ = some (.string y.val)
        ∧ w'.cell? ⟨q, 0, none⟩ = some (.string x.key) ∧ w'.cell? ⟨q, 1, none⟩ = some (.int .u64 x.seq) ∧ w'.cell? ⟨q, 2, none⟩ = some (.bool x.del) ∧ w'.cell? ⟨q, 3, none⟩ = some (.string x.val)
theorem headS_of {W : World} {g p q : Nat} {y x : Ent} (hg : g < W.heap.size) (hr : W.rangeAt g p y.cs) (hx : Blk W q 30 x.cs) : ∀ w', Below W.heap.size W w' → HeadS W g p y q x w' := fun w' h => by
  obtain ⟨e0, e1, e2, e3, _⟩ := (hx.below h hx.lt).four
  have h4 := rangeAt_below hr h hg
  exact ⟨h, by have := h4 0 _ rfl; simpa using this, h4 1 _ rfl, h4 2 _ rfl, h4 3 _ rfl, e0, e1, e2, e3⟩
theorem headS_cmp {W : World} {g p q : Nat} {y x : Ent} (hy : y.ok) (hx : x.ok) (z : Int) (hz : z = cmpE y x) : ∀ w', HeadS W g p y q x w' → Calls Tryd.prog 13 #[y.v, x.v] w' fun e w'' => e = .returned (.int .i64 z) ∧ Below W.heap.size W w'' := fun w' h' =>
  (cmp_any y x w' hy hx).mono fun e w'' hp => ⟨by rw [hp.1, hz], h'.1.trans (hp.2.mono h'.1.size)⟩

def OrdPost (res : List Ent) (w : World) (e : Ending) (w' : World) : Prop := ∃ g cp, e = .returned (.slice (some ⟨g, 0, none⟩) res.length cp) ∧ res.length ≤ cp ∧ cp ≤ maxLen ∧ SlE w' (some ⟨g, 0, none⟩) res ∧ w.heap.size ≤ g ∧ g < w'.heap.size ∧ Below w.heap.size w w'

def ordRel (w : World) (es : List Ent) (n : Nat) (s5 s13 : Value) (wr : World) : Prop := ∃ (k : Nat) (out : List Ent) (g cp : Nat), k ≤ n ∧ s13 = .int .i64 k ∧ out = ordE (es.take k) ∧ s5 = .slice (some ⟨g, 0, none⟩) out.length cp ∧ out.length ≤ k ∧ cp ≤ maxLen ∧
  wr.ownsRow w.heap.size 30 4 (.slice (some ⟨g, 0, none⟩) out.length cp) out.length (cellsE out) ∧ Below w.heap.size w wr

set_option maxRecDepth 100000 in
set_option maxHeartbeats 4000000 in
theorem order_any (w : World) (ao : Option Addr) (cp : Nat) (es : List Ent) (h : SlE w ao es) (hok : ∀ x, x ∈ es → x.ok) (hcap : es.length ≤ cp) (hlen : es.length ≤ 1000) :
    Calls Tryd.prog 6 #[.slice ao es.length cp, .int .i64 0] w (OrdPost (ordE es) w) := by
  obtain ⟨i0, hi, hz0, hz1, hz2⟩ := info_parts infoE
  obtain ⟨n, hn⟩ : ∃ n, n = es.length := ⟨_, rfl⟩
  rw [← hn] at hcap hlen ⊢
  have Hn := Lib.hid hn
  have hsp : n = 0 ∨ ∃ b o, ao = some ⟨b, o, none⟩ ∧ b < w.heap.size ∧ ∀ j x, es[j]? = some x → w.rangeAt b (o + j * 4) x.cs := by
    by_cases h0 : n = 0
    · exact .inl h0
    · right
      have hl0 : 0 < es.length := by omega
      obtain ⟨b, o, e1, e2, _⟩ := h 0 es[0] (List.getElem?_eq_getElem hl0)
      refine ⟨b, o, e1, e2, fun j x hx => ?_⟩
      obtain ⟨g', p', e3, _, e5⟩ := h j x hx
      rw [e1] at e3; cases e3; exact e5
  clear hn h
  have Hok := Lib.hid hok
  clear hok
  rcases hsp with rfl | ⟨b, o, rfl, hbl, hrg⟩
  · have hes : es = [] := List.length_eq_zero_iff.1 Hn.out.symm
    have Hes := Lib.hid hes
    clear hes
    go_enter Tryd.func6, Tryd.ntmps6
    go_wp2_with fail
    go_loopw [5, 13] (fun s5 s13 wr => s5 = .slice (some ⟨w.heap.size, 0, none⟩) 0 0 ∧ s13 = .int .i64 0 ∧ wr = w.alloc (.cells #[] 30)) (fun _ _ _ => 0)
    case atStart => exact ⟨rfl, rfl, rfl⟩
    case round =>
      obtain ⟨rfl, rfl, rfl⟩ := hrel
      go_wp2
      go_ret
      refine ⟨w.heap.size, 0, by rw [Hes.out]; rfl, by rw [Hes.out]; exact Nat.le_refl _, by unfold maxLen; omega, by rw [Hes.out]; exact SlE.nil _ _, Nat.le_refl _, by simp, (Below.refl _ _).alloc (Nat.le_refl _) _⟩
  have Hrg := Lib.hid hrg
  clear hrg
  have hcap' : (n : Int) ≤ cp := by omega
  go_enter Tryd.func6, Tryd.ntmps6
  go_wp2_with fail
  go_loopw [5, 13] (fun s5 s13 wr => ordRel w es n s5 s13 wr) (fun _ i _ => n - (intOf i).toNat)
  case atStart =>
    refine ⟨0, [], w.heap.size, 0, Nat.zero_le _, rfl, rfl, rfl, Nat.le_refl _, by unfold maxLen; omega, World.ownsRow_made w #[] 0 (Nat.le_refl _) (by unfold maxLen; omega) rfl, (Below.refl _ _).alloc (Nat.le_refl _) _⟩
  case round =>
    obtain ⟨wo, hwo⟩ : ∃ wo, wo = wr := ⟨_, rfl⟩
    subst hwo
    obtain ⟨k, out, g, c, hk, rfl, hout, rfl, hol, hcm, hown, hb⟩ := hrel
    have Hout := Lib.hid hout
    have hwo := hb.size
    clear hout
    by_cases hkn : k < n
    · have hkl : k < es.length := by rw [← Hn.out]; exact hkn
      obtain ⟨x, hx⟩ : ∃ x, es[k]? = some x := ⟨_, List.getElem?_eq_getElem hkl⟩
      have hr := rangeAt_below (Hrg.out k x hx) hb hbl
      have q0 : wo.cell? ⟨b, o + k * 4, none⟩ = some (.string x.key) := by have := hr 0 _ rfl; simpa using this
      have q1 : wo.cell? ⟨b, o + k * 4 + 1, none⟩ = some (.int .u64 x.seq) := hr 1 _ rfl
      have q2 : wo.cell? ⟨b, o + k * 4 + 2, none⟩ = some (.bool x.del) := hr 2 _ rfl
      have q3 : wo.cell? ⟨b, o + k * 4 + 3, none⟩ = some (.string x.val) := hr 3 _ rfl
      have hxok : x.ok := Hok.out x (List.mem_of_getElem? hx)
      have Hx := Lib.hid hx
      have hkn' : (k : Int) < n := by omega
      have hk0 : (0 : Int) ≤ k := by omega
      clear hx hr
      go_upto_if 19 with fail
      go_cut [] (fun wx => wx = wo.alloc x.obj)
      case first =>
        have hcnt : wrap64 (1 + bits BinOp.and IntKind.i64 0 63) = 1 := by decide +kernel
        go_wp2_with fail
        · refine (repeat_one _ _).mono ?_
          rintro e w' ⟨rfl, rfl⟩
          go_wp2
          go_meet
          rfl
        · go_meet
          rfl
      case rest =>
        subst hcut
        go_wp2_with fail
        refine (check_any x _ hxok).mono ?_
        rintro e w2 ⟨rfl, hb2⟩
        obtain ⟨z, hz⟩ : ∃ z, z = chkE x := ⟨_, rfl⟩
        rw [← hz]
        have Hz := Lib.hid hz
        clear hz
        by_cases hz0 : z = 0
        · subst hz0
          have hslw : SlE wo (some ⟨g, 0, none⟩) out ∧ g < wo.heap.size := by
            obtain ⟨ao', cp', e1, _, _, _, e5, e6⟩ := SlE.ofOwns hown
            cases e1
            exact ⟨e5, (e6 _ rfl).2⟩
          have hsz2 : wo.heap.size < w2.heap.size := by have := hb2.size; simp at this; omega
          have hbw : Below wo.heap.size wo w2 := ((Below.refl _ _).alloc (Nat.le_refl _) x.obj).trans (hb2.mono (by simp))
          have hslo := hslw.1.below' hbw
          have hgw : g < w2.heap.size := by have := hslw.2; omega
          have hbox : Blk w2 wo.heap.size 30 x.cs := (Blk.new wo x.cs.toArray 30).below hb2 (by simp)
          have hook : ∀ y, y ∈ out → y.ok := fun y hy => Hok.out y (List.mem_of_mem_take (mem_ordE (by rw [← Hout.out]; exact hy)))
          obtain ⟨m, hm⟩ : ∃ m, m = out.length := ⟨_, rfl⟩
          rw [← hm] at hol hown ⊢
          have hmc : m ≤ c := by
            obtain ⟨ao', cp', e1, _, e3, _⟩ := SlE.ofOwns hown
            cases e1; exact e3
          have hmc' : (m : Int) ≤ c := by omega
          have hmx : maxLen = 9223372036854775807 := by decide
          have hcm' : c ≤ 9223372036854775807 := by omega
          clear hmx
          have Hm := Lib.hid hm
          have Hown := Lib.hid hown
          have Hook := Lib.hid hook
          have Hslo := Lib.hid hslo
          clear hm hown hook hslw hslo
          go_upto_block 2 with fail
          go_cut [8] (fun s8 wx => s8 = .int .i64 (atE x out) ∧ Below w2.heap.size w2 wx)
          case first =>
            go_wp2_with fail
            go_loopw [8] (fun s8 wr => ∃ j : Nat, j ≤ m ∧ s8 = .int .i64 j ∧ Below w2.heap.size w2 wr ∧ ∀ i y, i < j → out[i]? = some y → decide (cmpE y x < 0) = true) (fun s8 _ => m - (intOf s8).toNat)
            case atStart => exact ⟨0, Nat.zero_le _, rfl, Below.refl _ _, fun i y hi => by omega⟩
            case round =>
              obtain ⟨j, hj, rfl, hbq, hall⟩ := hrel
              have Hall := Lib.hid hall
              clear hall
              by_cases hjm : j < m
              · have hjl : j < out.length := by rw [← Hm.out]; exact hjm
                obtain ⟨y, hy⟩ : ∃ y, out[j]? = some y := ⟨_, List.getElem?_eq_getElem hjl⟩
                have hym : y ∈ out := List.mem_of_getElem? hy
                obtain ⟨g', p', e1, _, hry⟩ := Hslo.out j y hy
                cases e1
                have hry' : w2.rangeAt g (j * 4) y.cs := by rw [Nat.zero_add] at hry; exact hry
                have hyok := Hook.out y hym
                obtain ⟨z, hz⟩ : ∃ z, z = cmpE y x := ⟨_, rfl⟩
                have hbq0 := hbq.size
                have hkeep := headS_of (W := wr) (p := j * 4) (q := wo.heap.size) (by omega) (rangeAt_below hry' hbq hgw) (hbox.below hbq (by omega))
                have hcall := headS_cmp (W := wr) (g := g) (p := j * 4) (q := wo.heap.size) hyok hxok z hz
                have hjm' : decide (j < m) = true := decide_eq_true hjm
                have hj0 : (0 : Int) ≤ j := by omega
                have hj1 : (j : Int) < m := by omega
                have Hz2 := Lib.hid hz
                have Hy := Lib.hid hy
                have Hcall := Lib.hid hcall
                have Hkeep := Lib.hid hkeep
                clear hz hy hcall hkeep hym hry hry'
                go_wp2_with fail
                go_region_held (fun w' => Below wr.heap.size wr w' ∧ w'.cell? ⟨g, j * 4, none⟩ = some (.string y.key) ∧ w'.cell? ⟨g, j * 4 + 1, none⟩ = some (.int .u64 y.seq) ∧ w'.cell? ⟨g, j * 4 + 2, none⟩ = some (.bool y.del) ∧ w'.cell? ⟨g, j * 4 + 3, none⟩ = some (.string y.val)
                    ∧ w'.cell? ⟨wo.heap.size, 0, none⟩ = some (.string x.key) ∧ w'.cell? ⟨wo.heap.size, 1, none⟩ = some (.int .u64 x.seq) ∧ w'.cell? ⟨wo.heap.size, 2, none⟩ = some (.bool x.del) ∧ w'.cell? ⟨wo.heap.size, 3, none⟩ = some (.string x.val))
                  ((first | exact Hkeep.out _ ((Below.refl _ _).drew) | exact Hkeep.out _ (by assumption)))
                  ((go_at_call 13; (with_reducible refine (Hcall.out _ (by assumption)).mono ?_); rintro e w4 ⟨rfl, hb4⟩))
                have hfin : Below w2.heap.size w2 w4 := hbq.trans (hb4.mono hbq0)
                by_cases hzz : z < 0
                · go_wp2
                  go_roundw
                  case rel =>
                    refine ⟨j + 1, by omega, by go_num, hfin, fun i y' hi hy' => ?_⟩
                    by_cases e : i = j
                    · subst e
                      rw [Hy.out] at hy'
                      cases hy'
                      rw [← Hz2.out]; exact decide_eq_true hzz
                    · exact Hall.out i y' (by omega) hy'
                  case measure => simp [intOf]; omega
                · have hzz' : decide (z < 0) = false := decide_eq_false hzz
                  go_wp2
                  go_meet
                  refine ⟨?_, hfin⟩
                  rw [show j = atE x out from takeWhile_len _ _ _ Hall.out (by rw [← Hm.out]; exact hj) (fun y' hy' => by rw [Hy.out] at hy'; cases hy'; rw [← Hz2.out]; exact hzz')]
              · obtain rfl : j = m := by omega
                have hjm' : decide (j < j) = false := by simp
                go_wp2_with fail
                go_quiet (fail)
                go_wp2
                go_meet
                refine ⟨?_, below_drewN' hbq _⟩
                rw [show j = atE x out from takeWhile_len _ _ _ Hall.out (by rw [← Hm.out]; exact hj) (fun y' hy' => by have := (List.getElem?_eq_some_iff.1 hy').1; have := Hm.out; omega)]
          case rest =>
            obtain ⟨rfl, hbc⟩ := hcut
            obtain ⟨p, hp⟩ : ∃ p, p = atE x out := ⟨_, rfl⟩
            have hpm : p ≤ m := by rw [hp]; have := atE_le x out; have := Hm.out; omega
            rw [← hp]
            have Hp := Lib.hid hp
            clear hp
            have hbc0 := hbc.size
            go_upto_region 11 with fail
            go_cut [57] (fun s57 wx => s57 = .bool (sameE x out[p]?) ∧ Below w2.heap.size w2 wx)
            case first =>
              by_cases hpl : p < m
              · have hjl : p < out.length := by rw [← Hm.out]; exact hpl
                obtain ⟨y, hy⟩ : ∃ y, out[p]? = some y := ⟨_, List.getElem?_eq_getElem hjl⟩
                have hym : y ∈ out := List.mem_of_getElem? hy
                obtain ⟨g', p', e1, _, hry⟩ := Hslo.out p y hy
                cases e1
                have hry' : w2.rangeAt g (p * 4) y.cs := by rw [Nat.zero_add] at hry; exact hry
                have hyok := Hook.out y hym
                obtain ⟨z, hz⟩ : ∃ z, z = cmpE y x := ⟨_, rfl⟩
                have hkeep := headS_of (W := wc) (p := p * 4) (q := wo.heap.size) (by omega) (rangeAt_below hry' hbc hgw) (hbox.below hbc (by omega))
                have hcall := headS_cmp (W := wc) (g := g) (p := p * 4) (q := wo.heap.size) hyok hxok z hz
                have hjm' : decide (p < m) = true := decide_eq_true hpl
                have hj0 : (0 : Int) ≤ p := by omega
                have hj1 : (p : Int) < m := by omega
                have hs : sameE x out[p]? = (z == 0) := by rw [hy]; show decide (cmpE y x = 0) = _; rw [← hz]; rfl
                have Hs := Lib.hid hs
                have Hcall := Lib.hid hcall
                have Hkeep := Lib.hid hkeep
                clear hz hy hcall hkeep hym hry hry' hs
                go_region_held (fun w' => Below wc.heap.size wc w' ∧ w'.cell? ⟨g, p * 4, none⟩ = some (.string y.key) ∧ w'.cell? ⟨g, p * 4 + 1, none⟩ = some (.int .u64 y.seq) ∧ w'.cell? ⟨g, p * 4 + 2, none⟩ = some (.bool y.del) ∧ w'.cell? ⟨g, p * 4 + 3, none⟩ = some (.string y.val)
                    ∧ w'.cell? ⟨wo.heap.size, 0, none⟩ = some (.string x.key) ∧ w'.cell? ⟨wo.heap.size, 1, none⟩ = some (.int .u64 x.seq) ∧ w'.cell? ⟨wo.heap.size, 2, none⟩ = some (.bool x.del) ∧ w'.cell? ⟨wo.heap.size, 3, none⟩ = some (.string x.val))
                  ((first | exact Hkeep.out _ ((Below.refl _ _).drew) | exact Hkeep.out _ (by assumption)))
                  ((go_at_call 13; (with_reducible refine (Hcall.out _ (by assumption)).mono ?_); rintro e w4 ⟨rfl, hb4⟩))
                go_wp2
                go_meet
                exact ⟨by rw [Hs.out], hbc.trans (hb4.mono hbc0)⟩
              · obtain rfl : p = m := by omega
                have hjm' : decide (p < p) = false := by simp
                have hs : sameE x out[p]? = false := by rw [List.getElem?_eq_none (by rw [← Hm.out]; exact Nat.le_refl _)]; rfl
                have Hs := Lib.hid hs
                clear hs
                go_quiet (fail)
                go_wp2
                go_meet
                exact ⟨by rw [Hs.out], below_drewN' hbc _⟩
            case rest =>
              obtain ⟨rfl, hbx⟩ := hcut
              obtain ⟨V, hV⟩ : ∃ V, V = wc := ⟨_, rfl⟩
              subst hV
              obtain ⟨s, hs⟩ : ∃ s, s = sameE x out[p]? := ⟨_, rfl⟩
              rw [← hs]
              have hVo : Below wo.heap.size wo V := hbw.trans (hbx.mono (by omega))
              have hVs := hbx.size
              have hVw : Below w.heap.size w V := hb.trans (hVo.mono hwo)
              have hins : ordE (es.take (k + 1)) = insE x out := by
                rw [List.take_add_one, Hx.out]
                unfold ordE
                rw [List.foldl_append]
                show ordStep (List.foldl ordStep [] (es.take k)) x = _
                rw [show List.foldl ordStep [] (es.take k) = out from Hout.out.symm]
                unfold ordStep
                rw [if_pos Hz.out.symm]
              have Hins := Lib.hid hins
              cases s with
              | true =>
                have hsame : insE x out = out := by unfold insE; rw [← Hp.out, ← hs]; rfl
                have Hsame := Lib.hid hsame
                clear hs hins hsame
                go_wp2
                go_roundw
                case rel => exact ⟨k + 1, out, g, c, by omega, by go_num, by rw [Hins.out, Hsame.out], by rw [Hm.out], by have := Hm.out; omega, hcm, by rw [← Hm.out]; exact owns_below Hown.out hVo, hVw⟩
                case measure => simp [intOf]; omega
              | false =>
                have hsame : insE x out = out.take p ++ x :: out.drop p := by unfold insE; rw [← Hp.out, ← hs]; rfl
                have Hsame := Lib.hid hsame
                have hslv := Hslo.out.below' hbx
                have hgV : g < V.heap.size := by omega
                have hl1 : (cellsE (out.take p)).length = p * 4 := by rw [cellsE_length, List.length_take, ← Hm.out]; omega
                have hl3 : (cellsE (out.drop p)).length = (m - p) * 4 := by rw [cellsE_length, List.length_drop, ← Hm.out]
                have hown1 : (V.alloc (.cells #[] 30)).ownsRow V.heap.size 30 4 (.slice (some ⟨V.heap.size, 0, none⟩) 0 0) 0 [] := World.ownsRow_made V #[] 0 (Nat.le_refl _) (by unfold maxLen; omega) rfl
                have hn1 : ∀ j u, (cellsE (out.take p))[j]? = some u → (V.alloc (.cells #[] 30)).cell? ((⟨g, 0, none⟩ : Addr).add j) = some u := fun j u hu => by
                  have h1 : (cellsE out)[j]? = some u := by
                    rw [cellsE_take, List.getElem?_take] at hu
                    split at hu
                    · exact hu
                    · cases hu
                  have h2 := hslv.cells j u h1
                  exact (World.cell?_alloc_some _ _ _ (by rw [h2]; rfl)).trans h2
                have hboxV : Blk V wo.heap.size 30 x.cs := hbox.below hbx (by omega)
                have hxone : ∀ u ∈ x.cs, u.oneCell' = true := fun u hu => cellsE_one [x] u (by simpa [cellsE] using hu)
                have Hl1 := Lib.hid hl1
                have Hl3 := Lib.hid hl3
                have Hown1 := Lib.hid hown1
                have Hn1 := Lib.hid hn1
                have HboxV := Lib.hid hboxV
                have Hxone := Lib.hid hxone
                have hp1 : (p : Int) ≤ c := by omega
                have hp2 : (p : Int) ≤ m := by omega
                have hp0 : (0 : Int) ≤ p := by omega
                clear hs hins hsame hslv hl1 hl3 hown1 hn1 hboxV hxone
                by_cases hpc : p = c
                · have hdr : cellsE (out.drop p) = [] := List.length_eq_zero_iff.1 (by rw [Hl3.out]; omega)
                  have Hdr := Lib.hid hdr
                  clear hdr
                  obtain rfl : p = m := by omega
                  subst hpc
                  go_upto_region 13 with (at_builtin; refine wpList_append_own _ rfl (.tmp 58) (.tmp 61) 22 rfl V.heap.size 30 i0 _ 4 48 Tryd.underlying22 hi hz0 hz1 hz2 rfl (by decide) (.slice (some ⟨V.heap.size, 0, none⟩) 0 0) 0 [] rfl Hown1.out ⟨g, 0, none⟩ p p (cellsE (out.take p)) rfl Hl1.out Hn1.out (cellsE_one _) (by unfold maxLen; omega) (by omega) (by simp) ?_; intro v1 w3 hown1 hgrow1 hnil1)
                  rw [List.nil_append, Nat.zero_add] at hown1
                  have hb3 : Below V.heap.size V w3 := ((Below.refl _ _).alloc (Nat.le_refl _) (.cells #[] 30)).grown hgrow1 (by simp) (fun k hk => by cases hk; exact Nat.le_refl _)
                  have hs3 := hb3.size
                  obtain ⟨s0, s1, s2, s3, fs⟩ := (HboxV.out.below hb3 (by omega)).four
                  have hv1 : v1 ≠ .slice none 0 0 := fun e => by have := (hnil1.1 e).1; cases this
                  have Hown2 := Lib.hid (hown1.alloc x.obj)
                  have Hnew2 : Hid (Blk (w3.alloc x.obj) w3.heap.size 30 x.cs) := Lib.hid (Blk.new w3 x.cs.toArray 30)
                  have Hv1 := Lib.hid hv1
                  clear hown1 hgrow1 hnil1 hv1
                  obtain ⟨a1, c1, rfl, hc1, hc1'⟩ : ∃ a1 c1, v1 = .slice a1 p c1 ∧ p ≤ c1 ∧ c1 ≤ maxLen := by
                    obtain ⟨a1, c1, e1, _, e3, e4, _⟩ := SlE.ofOwns Hown2.out
                    exact ⟨a1, c1, e1, e3, e4⟩
                  go_upto_region 14 with (at_builtin; refine wpList_append_own _ rfl (.tmp 63) (.tmp 65) 22 rfl V.heap.size 30 i0 _ 4 48 Tryd.underlying22 hi hz0 hz1 hz2 rfl (by decide) (.slice a1 p c1) p (cellsE (out.take p)) rfl Hown2.out ⟨w3.heap.size, 0, none⟩ 1 1 x.cs rfl rfl Hnew2.out.news Hxone.out (by unfold maxLen; omega) (by omega) (by simp; omega) ?_; intro v2 w4 hown2 hgrow2 hnil2)
                  have hb4 : Below V.heap.size V w4 := (hb3.alloc (by omega) x.obj).grown hgrow2 (by simp; omega) (fun k hk => (Hown2.out.lt k hk).1)
                  have hs4 := hb4.size
                  have hslw4 := Hslo.out.below' (hbx.trans (hb4.mono hVs))
                  have hcl4 := hslw4.cells
                  have Hn3 : Hid (∀ j u, (cellsE (out.drop p))[j]? = some u → w4.cell? ((⟨g, 0, none⟩ : Addr).add j) = some u) := Lib.hid (fun j u hu => by rw [Hdr.out] at hu; simp at hu)
                  have Hown3 := Lib.hid hown2
                  have hv2 : v2 ≠ .slice none 0 0 := fun e => Hv1.out (hnil2.1 e).1
                  have Hv2 := Lib.hid hv2
                  clear hslw4 hcl4 hown2 hgrow2 hnil2 hv2
                  obtain ⟨a2, c2, rfl, hc2, hc2'⟩ : ∃ a2 c2, v2 = .slice a2 (p + 1) c2 ∧ p + 1 ≤ c2 ∧ c2 ≤ maxLen := by
                    have hh := Hown3.out
                    rw [show cellsE (out.take p) ++ x.cs = cellsE (out.take p ++ [x]) by rw [cellsE_append]; simp [cellsE]] at hh
                    obtain ⟨a1, c1, e1, _, e3, e4, _⟩ := SlE.ofOwns hh
                    exact ⟨a1, c1, e1, e3, e4⟩
                  go_wp2_with (at_builtin; refine wpList_append_own _ rfl (.tmp 67) (.tmp 70) 22 rfl V.heap.size 30 i0 _ 4 48 Tryd.underlying22 hi hz0 hz1 hz2 rfl (by decide) (.slice a2 (p + 1) c2) (p + 1) (cellsE (out.take p) ++ x.cs) rfl Hown3.out ⟨g, 0, none⟩ 0 0 (cellsE (out.drop p)) rfl (by rw [Hl3.out, Nat.sub_self]) Hn3.out (cellsE_one _) (by unfold maxLen; omega) (by omega) (by omega) ?_; intro v3 w5 hown5 hgrow5 hnil5)
                  have hv3 : v3 ≠ .slice none 0 0 := fun e => Hv2.out (hnil5.1 e).1
                  have hown6 : w5.ownsRow w.heap.size 30 4 v3 (p + 1) (cellsE (insE x out)) := by
                    rw [Hsame.out, show out.take p ++ x :: out.drop p = out.take p ++ [x] ++ out.drop p by simp, cellsE_append, cellsE_append, show cellsE [x] = x.cs by simp [cellsE], show p + 1 = p + 1 + 0 from rfl]
                    exact owns_base hown5 hVw.size
                  have hb5 : Below w.heap.size w w5 := (hVw.trans (hb4.mono hVw.size)).grown hgrow5 (by omega) (fun k hk => Nat.le_trans hVw.size (Hown3.out.lt k hk).1)
                  obtain ⟨g3, c3, rfl, hc3, hl3⟩ : ∃ g3 c3, v3 = .slice (some ⟨g3, 0, none⟩) (p + 1) c3 ∧ c3 ≤ maxLen ∧ p + 1 = (insE x out).length := by
                    obtain ⟨a1, c1, e1, e2, e3, e4, _⟩ := SlE.ofOwns hown6
                    rcases hown6.2 with ⟨e, _⟩ | ⟨g3, c3, cur, e, _⟩
                    · exact absurd e hv3
                    · rw [e1] at e
                      cases e
                      exact ⟨g3, c1, e1, e4, e2⟩
                  go_roundw
                  case rel => exact ⟨k + 1, insE x out, g3, c3, by omega, by go_num, Hins.out.symm, by rw [← hl3], by omega, hc3, by rw [← hl3]; exact hown6, hb5⟩
                  case measure => simp [intOf]; omega
                · have hpc' : p < c := by omega
                  go_upto_region 13 with (at_builtin; refine wpList_append_own _ rfl (.tmp 58) (.tmp 61) 22 rfl V.heap.size 30 i0 _ 4 48 Tryd.underlying22 hi hz0 hz1 hz2 rfl (by decide) (.slice (some ⟨V.heap.size, 0, none⟩) 0 0) 0 [] rfl Hown1.out ⟨g, 0, none⟩ p c (cellsE (out.take p)) rfl Hl1.out Hn1.out (cellsE_one _) (by unfold maxLen; omega) (by omega) (by simp) ?_; intro v1 w3 hown1 hgrow1 hnil1)
                  rw [List.nil_append, Nat.zero_add] at hown1
                  have hb3 : Below V.heap.size V w3 := ((Below.refl _ _).alloc (Nat.le_refl _) (.cells #[] 30)).grown hgrow1 (by simp) (fun k hk => by cases hk; exact Nat.le_refl _)
                  have hs3 := hb3.size
                  obtain ⟨s0, s1, s2, s3, fs⟩ := (HboxV.out.below hb3 (by omega)).four
                  have hv1 : v1 ≠ .slice none 0 0 := fun e => by have := (hnil1.1 e).1; cases this
                  have Hown2 := Lib.hid (hown1.alloc x.obj)
                  have Hnew2 : Hid (Blk (w3.alloc x.obj) w3.heap.size 30 x.cs) := Lib.hid (Blk.new w3 x.cs.toArray 30)
                  have Hv1 := Lib.hid hv1
                  clear hown1 hgrow1 hnil1 hv1
                  obtain ⟨a1, c1, rfl, hc1, hc1'⟩ : ∃ a1 c1, v1 = .slice a1 p c1 ∧ p ≤ c1 ∧ c1 ≤ maxLen := by
                    obtain ⟨a1, c1, e1, _, e3, e4, _⟩ := SlE.ofOwns Hown2.out
                    exact ⟨a1, c1, e1, e3, e4⟩
                  go_upto_region 14 with (at_builtin; refine wpList_append_own _ rfl (.tmp 63) (.tmp 65) 22 rfl V.heap.size 30 i0 _ 4 48 Tryd.underlying22 hi hz0 hz1 hz2 rfl (by decide) (.slice a1 p c1) p (cellsE (out.take p)) rfl Hown2.out ⟨w3.heap.size, 0, none⟩ 1 1 x.cs rfl rfl Hnew2.out.news Hxone.out (by unfold maxLen; omega) (by omega) (by simp; omega) ?_; intro v2 w4 hown2 hgrow2 hnil2)
                  have hb4 : Below V.heap.size V w4 := (hb3.alloc (by omega) x.obj).grown hgrow2 (by simp; omega) (fun k hk => (Hown2.out.lt k hk).1)
                  have hs4 := hb4.size
                  have hslw4 := Hslo.out.below' (hbx.trans (hb4.mono hVs))
                  have hcl4 := hslw4.cells
                  have Hn3 : Hid (∀ j u, (cellsE (out.drop p))[j]? = some u → w4.cell? ((⟨g, p * 4, none⟩ : Addr).add j) = some u) := Lib.hid (fun j u hu => by rw [cellsE_drop, List.getElem?_drop] at hu; have := hcl4 _ _ hu; rw [Addr.add_lit, Nat.zero_add] at this; rw [Addr.add_lit]; exact this)
                  have Hown3 := Lib.hid hown2
                  have hv2 : v2 ≠ .slice none 0 0 := fun e => Hv1.out (hnil2.1 e).1
                  have Hv2 := Lib.hid hv2
                  clear hslw4 hcl4 hown2 hgrow2 hnil2 hv2
                  obtain ⟨a2, c2, rfl, hc2, hc2'⟩ : ∃ a2 c2, v2 = .slice a2 (p + 1) c2 ∧ p + 1 ≤ c2 ∧ c2 ≤ maxLen := by
                    have hh := Hown3.out
                    rw [show cellsE (out.take p) ++ x.cs = cellsE (out.take p ++ [x]) by rw [cellsE_append]; simp [cellsE]] at hh
                    obtain ⟨a1, c1, e1, _, e3, e4, _⟩ := SlE.ofOwns hh
                    exact ⟨a1, c1, e1, e3, e4⟩
                  go_wp2_with (at_builtin; refine wpList_append_own _ rfl (.tmp 67) (.tmp 70) 22 rfl V.heap.size 30 i0 _ 4 48 Tryd.underlying22 hi hz0 hz1 hz2 rfl (by decide) (.slice a2 (p + 1) c2) (p + 1) (cellsE (out.take p) ++ x.cs) rfl Hown3.out ⟨g, p * 4, none⟩ (m - p) (c - p) (cellsE (out.drop p)) rfl Hl3.out Hn3.out (cellsE_one _) (by unfold maxLen; omega) (by omega) (by omega) ?_; intro v3 w5 hown5 hgrow5 hnil5)
                  have hv3 : v3 ≠ .slice none 0 0 := fun e => Hv2.out (hnil5.1 e).1
                  have hown6 : w5.ownsRow w.heap.size 30 4 v3 (m + 1) (cellsE (insE x out)) := by
                    rw [Hsame.out, show out.take p ++ x :: out.drop p = out.take p ++ [x] ++ out.drop p by simp, cellsE_append, cellsE_append, show cellsE [x] = x.cs by simp [cellsE], show m + 1 = p + 1 + (m - p) by omega]
                    exact owns_base hown5 hVw.size
                  have hb5 : Below w.heap.size w w5 := (hVw.trans (hb4.mono hVw.size)).grown hgrow5 (by omega) (fun k hk => Nat.le_trans hVw.size (Hown3.out.lt k hk).1)
                  obtain ⟨g3, c3, rfl, hc3, hl3⟩ : ∃ g3 c3, v3 = .slice (some ⟨g3, 0, none⟩) (m + 1) c3 ∧ c3 ≤ maxLen ∧ m + 1 = (insE x out).length := by
                    obtain ⟨a1, c1, e1, e2, e3, e4, _⟩ := SlE.ofOwns hown6
                    rcases hown6.2 with ⟨e, _⟩ | ⟨g3, c3, cur, e, _⟩
                    · exact absurd e hv3
                    · rw [e1] at e
                      cases e
                      exact ⟨g3, c1, e1, e4, e2⟩
                  go_roundw
                  case rel => exact ⟨k + 1, insE x out, g3, c3, by omega, by go_num, Hins.out.symm, by rw [← hl3], by omega, hc3, by rw [← hl3]; exact hown6, hb5⟩
                  case measure => simp [intOf]; omega
        · have hz1 : (z != 0) = true := by simp [hz0]
          have hz2' : (z == 0) = false := by simp [hz0]
          have hbw : Below wo.heap.size wo w2 := ((Below.refl _ _).alloc (Nat.le_refl _) x.obj).trans (hb2.mono (by simp))
          have hins : ordE (es.take (k + 1)) = out := by
            rw [List.take_add_one, Hx.out]
            unfold ordE
            rw [List.foldl_append]
            show ordStep (List.foldl ordStep [] (es.take k)) x = _
            rw [show List.foldl ordStep [] (es.take k) = out from Hout.out.symm]
            unfold ordStep
            rw [if_neg (by rw [← Hz.out]; exact hz0)]
          have Hins := Lib.hid hins
          have Hown := Lib.hid hown
          clear hins hown
          go_wp2
          go_roundw
          case rel => exact ⟨k + 1, out, g, c, by omega, by go_num, Hins.out.symm, rfl, by omega, hcm, owns_below Hown.out hbw, hb.trans (hbw.mono hwo)⟩
          case measure => simp [intOf]; omega
    · obtain rfl : k = n := by omega
      have hkn' : ¬ (k : Int) < k := by omega
      go_wp2
      go_ret
      obtain ⟨ao', cp', e1, e2, e3, e4, e5, e6⟩ := SlE.ofOwns hown
      cases e1
      have hfin : ordE es = out := by rw [Hout.out, List.take_of_length_le (by rw [← Hn.out]; exact Nat.le_refl _)]
      refine ⟨g, c, by rw [hfin]; rfl, by rw [hfin]; exact e3, e4, by rw [hfin]; exact e5, (e6 _ rfl).1, (e6 _ rfl).2, hb⟩
end Go.Proofs.YtnmpiobgdnfmjaaDoor
