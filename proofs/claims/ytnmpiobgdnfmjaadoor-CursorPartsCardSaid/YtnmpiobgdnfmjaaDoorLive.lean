/- Live at a list, of all keys. -/
import Derived.Test.YtnmpiobgdnfmjaaDoorMake
import Derived.Deep.LoopGhost
namespace Go.Proofs.YtnmpiobgdnfmjaaDoor
open Go Go.RowKit

/-- what Live of all keys comes to -/
def liveL (seq most : Int) : List Ent → List Ent → ByteArray → Bool → List Ent
  | [], out, _, _ => out
  | x :: r, out, last, seen => if ¬ ((out.length : Int) < most) then out else
      if seq < x.seq ∨ (seen = true ∧ x.key = last) then liveL seq most r out last seen
      else liveL seq most r (if x.del then out else out ++ [x]) x.key true

theorem liveL_length (seq most : Int) : ∀ (es out : List Ent) (last : ByteArray) (seen : Bool), (liveL seq most es out last seen).length ≤ out.length + es.length := by
  intro es
  induction es with
  | nil => intro out last seen; exact Nat.le_refl _
  | cons x r ih =>
    intro out last seen
    unfold liveL
    split
    · simp
    · split
      · have := ih out last seen; simp; omega
      · have := ih (if x.del then out else out ++ [x]) x.key true
        have : (if x.del then out else out ++ [x]).length ≤ out.length + 1 := by split <;> simp
        simp; omega

def LivePost (res : List Ent) (c : Nat) (w : World) (e : Ending) (w' : World) : Prop := ∃ ao cp, e = .returned (.tuple #[.slice ao res.length cp, .int .i64 0]) ∧ res.length ≤ cp ∧ cp ≤ maxLen ∧ SlE w' ao res ∧ Chg (fun k => k = c) w w'

def liveRel (w : World) (c g : Nat) (seq most : Int) (res : List Ent) (gk : Nat) (s13 s14 s15 : Value) (wr : World) : Prop :=
  ∃ (rest out : List Ent) (last : ByteArray) (seen : Bool) (ao : Option Addr) (cp : Nat), gk = rest.length + 1 ∧ s13 = .slice ao out.length cp ∧ s14 = .string last ∧ s15 = .bool seen ∧ out.length + rest.length ≤ 1000 ∧ (∀ x, x ∈ rest → x.ok) ∧
    CurL wr c g rest ∧ wr.ownsRow w.heap.size 30 4 (.slice ao out.length cp) out.length (cellsE out) ∧ Chg (fun k => k = c) w wr ∧ liveL seq most rest out last seen = res

theorem live_fin {w w' : World} {c n cp : Nat} {ao : Option Addr} {out res : List Ent} (h : w'.ownsRow w.heap.size 30 4 (.slice ao n cp) n (cellsE out)) (hr : out = res) (hc : Chg (fun k => k = c) w w') :
    LivePost res c w (.returned (.tuple #[.slice ao n cp, .int .i64 0])) w' := by
  obtain ⟨ao', cp', e1, e2, e3, e4, e5, _⟩ := SlE.ofOwns h
  cases e1
  subst hr
  exact ⟨ao, cp, by rw [e2], by omega, e4, e5, hc⟩
theorem liveL_skip {seq most : Int} {x : Ent} {r out : List Ent} {last : ByteArray} {seen : Bool} (h0 : (out.length : Int) < most) (h : seq < x.seq ∨ (seen = true ∧ x.key = last)) : liveL seq most (x :: r) out last seen = liveL seq most r out last seen := by
  conv => lhs; unfold liveL
  rw [if_neg (by simpa using h0), if_pos h]
theorem liveL_take {seq most : Int} {x : Ent} {r out : List Ent} {last : ByteArray} {seen : Bool} (h0 : (out.length : Int) < most) (h : ¬ (seq < x.seq ∨ (seen = true ∧ x.key = last))) : liveL seq most (x :: r) out last seen = liveL seq most r (if x.del then out else out ++ [x]) x.key true := by
  conv => lhs; unfold liveL
  rw [if_neg (by simpa using h0), if_neg h]
theorem liveL_full {seq most : Int} {es out : List Ent} {last : ByteArray} {seen : Bool} (h0 : ¬ (out.length : Int) < most) : liveL seq most es out last seen = out := by
  cases es with
  | nil => rfl
  | cons x r => unfold liveL; rw [if_pos h0]
theorem toList_inj {a b : ByteArray} : (a.toList == b.toList) = decide (a = b) := by
  rw [Bool.eq_iff_iff]
  simp only [beq_iff_eq, decide_eq_true_eq, ByteArray.toList_eq]
  constructor
  · intro h
    obtain ⟨⟨a⟩⟩ := a
    obtain ⟨⟨b⟩⟩ := b
    simp only at h
    rw [h]
  · rintro rfl; rfl

set_option maxRecDepth 100000 in
set_option maxHeartbeats 4000000 in
theorem live_list (w : World) (c g : Nat) (from_ : ByteArray) (seq most : Int) (es : List Ent) (hL : CurL w c g es) (hg : g < w.heap.size) (hok : ∀ x, x ∈ es → x.ok) (hs0 : 0 ≤ seq) (hs1 : seq ≤ 72057594037927935) (hlen : es.length ≤ 1000) (hm0 : 0 ≤ most) (hm1 : most ≤ 1000)
    (hseek : ∀ y r, es = y :: r → ¬ cmpE y ⟨from_, 72057594037927935, false, ⟨#[]⟩⟩ < 0) (hf : from_.size ≤ 9223372036854775807) :
    Calls Tryd.prog 10 #[.pointer (some ⟨c, 0, none⟩), .string from_, .string ⟨#[]⟩, .int .u64 seq, .int .i64 most] w (LivePost (liveL seq most es [] ⟨#[]⟩ false) c w) := by
  obtain ⟨i0, hi, hz0, hz1, hz2⟩ := info_parts infoE
  have hsk : Calls Tryd.prog 18 #[.pointer (some ⟨c, 0, none⟩), .agg #[.string from_, .int .u64 72057594037927935, .bool false, .string ⟨#[]⟩]] w fun e w' => e = .returned (.int .i64 0) ∧ Below w.heap.size w w' :=
    seek_list0 w c g ⟨from_, 72057594037927935, false, ⟨#[]⟩⟩ es hL ⟨show (0 : Int) ≤ 72057594037927935 by decide, show (72057594037927935 : Int) < 18446744073709551616 by decide, hf, show 0 ≤ 9223372036854775807 by decide⟩ (fun y r e => ⟨hok y (by rw [e]; simp), hseek y r e⟩)
  have Hsk := Lib.hid hsk
  have hclt := hL.lt
  obtain ⟨res, hres⟩ : ∃ res, res = liveL seq most es [] ⟨#[]⟩ false := ⟨_, rfl⟩
  rw [← hres]
  have Hres := Lib.hid hres
  clear hsk hres hseek
  go_enter Tryd.func10, Tryd.ntmps10
  go_wp2_with fail
  refine Hsk.out.mono ?_
  rintro e w1 ⟨rfl, hb1⟩
  have hL1 := hL.below hb1
  have hsz1 := hb1.size
  go_wp2_with fail
  go_loopg [13, 14, 15] (es.length + 1) (fun gk s13 s14 s15 wr => liveRel w c g seq most res gk s13 s14 s15 wr)
  case atStart =>
    exact ⟨es, [], ⟨#[]⟩, false, none, 0, rfl, rfl, rfl, rfl, by simpa using hlen, hok, hL1, World.ownsRow_nil _ _ _ _, Chg.ofBelow hb1, Hres.out.symm⟩
  case round =>
    obtain ⟨rest, out, last, seen, ao, cp, hgk, rfl, rfl, rfl, hbd, hrok, hcur, hown, hchg, hlive⟩ := hrel
    have Hlive := Lib.hid hlive
    have Hgk := Lib.hid hgk
    have hwr := hchg.size
    obtain ⟨n, hn⟩ : ∃ n, n = out.length := ⟨_, rfl⟩
    rw [← hn] at hown hbd ⊢
    have Hn := Lib.hid hn
    clear hlive hgk hn hok
    by_cases hlt : (n : Int) < most
    · cases rest with
      | nil =>
        go_wp2_with fail
        refine (next_nil _ c g hcur).mono ?_
        rintro e w2 ⟨rfl, hb2⟩
        go_wp2
        go_ret2
        have hg2 : wr.grownBy w2 none := ⟨hb2.os, hb2.tape, hb2.output, hb2.size, fun k hk _ => hb2.block k hk⟩
        exact live_fin ((hown.kept hg2 (by cases ao <;> simp [Value.ownBlock])).alloc _) Hlive.out ((hchg.below hb2).alloc _)
      | cons x r =>
        have hxok : x.ok := hrok x (by simp)
        obtain ⟨hx0, hx1, _, _⟩ := hxok
        go_wp2_with fail
        refine (next_cons _ c g x r hcur).mono ?_
        rintro e w2 ⟨rfl, hcur2, hch2⟩
        have hrok2 : ∀ y, y ∈ r → y.ok := fun y hy => hrok y (by simp [hy])
        have hbd2 : n + r.length + 1 ≤ 1000 := by simp at hbd; omega
        have hs2 := hch2.size
        have hblk : (Value.slice ao n cp).ownBlock ≠ some c := fun e => by have := (hown.lt c e).1; omega
        have hg2 : wr.grownBy w2 (some c) := ⟨hch2.os, hch2.tape, hch2.output, hch2.size, fun k hk hn => hch2.block k hk (fun e => hn (by rw [e]))⟩
        have hown2 := (hown.kept hg2 (.inr hblk)).alloc x.obj
        have hcur3 : CurL (w2.alloc x.obj) c g r := hcur2.below ((Below.refl _ _).alloc (Nat.le_refl _) _)
        have hchg2 : Chg (fun k => k = c) w (w2.alloc x.obj) := (hchg.trans' hch2).alloc _
        have Hhrok := Lib.hid hrok
        clear hown hcur hrok
        by_cases hA : seq < x.seq
        · go_wp2
          go_roundg (r.length + 1)
          case measure => rw [Hgk.out]; simp
          case rel => exact ⟨r, out, last, seen, ao, cp, rfl, by rw [Hn.out], rfl, rfl, by have := Hn.out; omega, hrok2, hcur3, by rw [← Hn.out]; exact hown2, hchg2, by rw [← Hlive.out, liveL_skip (by rw [← Hn.out]; exact hlt) (.inl hA)]⟩
        · have hA' : decide (seq < x.seq) = false := decide_eq_false hA
          have hA2 : x.seq ≤ seq := by omega
          by_cases hB : seen = true ∧ x.key = last
          · obtain ⟨rfl, hkl⟩ := hB
            have hke : (x.key.toList == last.toList) = true := by rw [toList_inj]; exact decide_eq_true hkl
            have Hkl := Lib.hid hkl
            clear hkl
            go_wp2
            go_roundg (r.length + 1)
            case measure => rw [Hgk.out]; simp
            case rel => exact ⟨r, out, last, true, ao, cp, rfl, by rw [Hn.out], rfl, rfl, by have := Hn.out; omega, hrok2, hcur3, by rw [← Hn.out]; exact hown2, hchg2, by rw [← Hlive.out, liveL_skip (by rw [← Hn.out]; exact hlt) (.inr ⟨rfl, Hkl.out⟩)]⟩
          · have hke : seen = true → (x.key.toList == last.toList) = false := fun hs => by rw [toList_inj]; exact decide_eq_false (fun e => hB ⟨hs, e⟩)
            have htake := liveL_take (seq := seq) (most := most) (x := x) (r := r) (out := out) (last := last) (seen := seen) (by rw [← Hn.out]; exact hlt) (by rintro (h | h); exact hA h; exact hB h)
            have Htake := Lib.hid htake
            clear htake hB
            have hnews : Blk ((w2.alloc x.obj).alloc x.obj) (w2.heap.size + 1) 30 x.cs := by
              have := Blk.new (w2.alloc x.obj) x.cs.toArray 30
              rw [show (w2.alloc x.obj).heap.size = w2.heap.size + 1 by simp] at this
              exact this
            have hone : ∀ u ∈ x.cs, u.oneCell' = true := fun u hu => cellsE_one [x] u (by simpa [cellsE] using hu)
            have Hnews := Lib.hid hnews
            have Hone := Lib.hid hone
            have Hown2 := Lib.hid hown2
            clear hnews hone hown2
            cases seen
            all_goals
              go_wp2_with (at_builtin; refine wpList_append_own _ rfl _ _ 22 rfl w.heap.size 30 i0 _ 4 48 Tryd.underlying22 hi hz0 hz1 hz2 rfl (by decide) (.slice ao n cp) n (cellsE out) rfl (Hown2.out.alloc _) ⟨w2.heap.size + 1, 0, none⟩ 1 1 x.cs rfl rfl Hnews.out.news Hone.out (by unfold maxLen; omega) (by omega) (by simp; omega) ?_; intro v' w3 hown3 hgrow3 _)
              · have hdl : x.del = false := by simpa using (by assumption : (!x.del) = true)
                have hown4 := hown3
                rw [show cellsE out ++ x.cs = cellsE (out ++ [x]) by rw [cellsE_append]; simp [cellsE]] at hown4
                obtain ⟨ao', cp', e1, e2, e3, e4, e5, e6⟩ := SlE.ofOwns hown4
                subst e1
                go_roundg (r.length + 1)
                case measure => rw [Hgk.out]; simp
                case rel =>
                  have hlt' := Hown2.out.lt
                  have hgr := Chg.ofGrown hgrow3
                  refine ⟨r, out ++ [x], x.key, true, ao', cp', rfl, by rw [e2], rfl, rfl, by have := Hn.out; simp; omega, hrok2, (hcur3.below ((Below.refl _ _).alloc (Nat.le_refl _) _)).chg hgr (fun e => by have := (hlt' _ e).1; omega) (fun _ e => by have := (hlt' _ e).1; omega), by rw [← e2]; exact hown4, (hchg2.alloc _).trans hgr (fun k hk e => by have := (hlt' _ e).1; omega), ?_⟩
                  rw [← Hlive.out, Htake.out, hdl]; rfl
              · have hdl : x.del = true := by simpa using (by assumption : (!x.del) = false)
                go_roundg (r.length + 1)
                case measure => rw [Hgk.out]; simp
                case rel =>
                  refine ⟨r, out, x.key, true, ao, cp, rfl, by rw [Hn.out], rfl, rfl, by have := Hn.out; omega, hrok2, hcur3, by rw [← Hn.out]; exact Hown2.out, hchg2, ?_⟩
                  rw [← Hlive.out, Htake.out, hdl]; rfl
    · have hge : decide ((n : Int) < most) = false := decide_eq_false hlt
      go_wp2
      go_ret2
      exact live_fin hown (by rw [← Hlive.out, liveL_full (by rw [← Hn.out]; omega)]) hchg
end Go.Proofs.YtnmpiobgdnfmjaaDoor
