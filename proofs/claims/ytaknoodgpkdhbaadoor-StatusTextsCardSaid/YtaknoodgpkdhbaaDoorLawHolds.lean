/- The walk of the law StatusHolds. -/
import Derived.Test.YtaknoodgpkdhbaaDoorHead
import Derived.Test.YtaknoodgpkdhbaaDoorHolds

namespace Go.Proofs.YtaknoodgpkdhbaaDoor
open Go.RowKit Go.Sort

theorem heqB_symm (f g : Nat → Int) : heqB f g = heqB g f := by
  unfold heqB
  congr 1
  funext i
  exact Bool.beq_comm

theorem wpList_load_guarded {P : Program} {ops : Array Oper} {rest : List Oper} {op : Oper} {a : Act} {w : World} {Q : Exit → Act → World → Prop} (hw : Region.wanted op (yielded ops a.tmps) = true) (ty : TypeId) (x : Operand) (ho : op.op = .load ty x)
    (b o : Nat) (hx : a.eval x = .pointer (some ⟨b, o, none⟩)) (cs : List Value) (d : TypeDesc) (hc : w.rangeAt b o cs)
    (hu : P.underlying ty = some d) (hd : d.isRow = true) (hi : (P.info? ty).map (·.size) = some cs.length)
    (h : wpList P ops Q rest (a.put op.dst (.agg cs.toArray)) w) : wpList P ops Q (op :: rest) a w := by
  unfold wpList
  rw [if_pos hw]
  exact .inl (wp_load_mid ty x ho b o hx cs d hc hu hd hi h)

theorem wpList_eql_guarded {P : Program} {ops : Array Oper} {rest : List Oper} {op : Oper} {a : Act} {w : World} {Q : Exit → Act → World → Prop} (hw : Region.wanted op (yielded ops a.tmps) = true) (ty ty' : TypeId) (x y : Operand) (ho : op.op = .binOp .eql ty x y ty')
    (xs ys : Array Value) (hx : a.eval x = .agg xs) (hy : a.eval y = .agg ys) (hm : P.eqGuardType P.depth ty = false) (v : Value) (hv : (binOp .eql ty (.agg xs) (.agg ys)).run P w = .ok v w)
    (h : wpList P ops Q rest (a.put op.dst v) w) : wpList P ops Q (op :: rest) a w := by
  unfold wpList
  rw [if_pos hw]
  refine .inl ?_
  unfold Oper.wp execOp
  simp only [ho, hx, hy, Sem.run_bind, run_eqGuard_agg w .eql ty x y xs ys hm, hv, Result.andThen_ok, Sem.run_pure]
  exact h

set_option maxRecDepth 100000 in
set_option maxHeartbeats 4000000 in
theorem law_holds (ht p : Int) (f g fi ad : Nat → Int) (br : Nat → Nat → Int) (own : Bool) (ao : Option Addr) (n c : Nat) (w : World) (hL : Laid ad fi w) (hp : p ≤ 9223372036854775807) (hf : ∀ j, 0 ≤ f j ∧ f j ≤ 255) (hbr : ∀ i j, 0 ≤ br i j ∧ br i j ≤ 255)
   (hn : n ≤ 9223372036854775807) (hsl : ∀ i, i < n → ∃ b o, ao = some ⟨b, o, none⟩ ∧ b < w.heap.size ∧ Row w b (o + i * 32) 32 (u8c (br i))) :
    Calls Tryd.prog 4 #[.agg #[.int .i64 ht, .int .i64 p, .slice ao n c], agg32 f, agg32 g, .bool own] w fun e w' => e = .returned (.bool true) ∧ Below w.heap.size w w' := by
  obtain ⟨l, hl⟩ : ∃ l, l = lst 32 (u8c f) := ⟨_, rfl⟩
  obtain ⟨m, hm⟩ : ∃ m, m = lst 32 (u8c g) := ⟨_, rfl⟩
  obtain ⟨top, htop⟩ : ∃ top, top = (upF ad fi br f p n).1 := ⟨_, rfl⟩
  obtain ⟨t, htt⟩ : ∃ t, t = lst 32 (u8c top) := ⟨_, rfl⟩
  obtain ⟨W, hW⟩ : ∃ W, W = ((w.alloc (.cells #[.int .i64 ht, .int .i64 p, .slice ao n c] 38)).alloc (.cells l.toArray 25)).alloc (.cells m.toArray 25) := ⟨_, rfl⟩
  have c0 : W.cell? ⟨w.heap.size, 0, none⟩ = some (.int .i64 ht) := by rw [hW]; go_simp
  have c1 : W.cell? ⟨w.heap.size, 1, none⟩ = some (.int .i64 p) := by rw [hW]; go_simp
  have c2 : W.cell? ⟨w.heap.size, 2, none⟩ = some (.slice ao n c) := by rw [hW]; go_simp
  have hbW : Below w.heap.size w W := by rw [hW]; exact (((Below.refl _ _).alloc (Nat.le_refl _) _).alloc (by simp) _).alloc (by simp; omega) _
  have hsW : W.heap.size = w.heap.size + 3 := by rw [hW]; simp
  have r1 : Row W (w.heap.size + 1) 0 32 (u8c f) := by
    rw [hW]
    have := (Row.new (w.alloc (.cells #[.int .i64 ht, .int .i64 p, .slice ao n c] 38)) l.toArray 25 (u8c f) 32 (fun j hj => by rw [hl]; simpa using lst_get hj)).alloc (by simp) (.cells m.toArray 25)
    simpa using this
  have r2 : Row W (w.heap.size + 1 + 1) 0 32 (u8c g) := by
    rw [hW]
    have := Row.new ((w.alloc (.cells #[.int .i64 ht, .int .i64 p, .slice ao n c] 38)).alloc (.cells l.toArray 25)) m.toArray 25 (u8c g) 32 (fun j hj => by rw [hm]; simpa using lst_get hj)
    simpa using this
  have f2 : Free W (w.heap.size + 1 + 1) := by
    rw [hW]
    have := Free.new ((w.alloc (.cells #[.int .i64 ht, .int .i64 p, .slice ao n c] 38)).alloc (.cells l.toArray 25)) m.toArray 25
    simpa using this
  have HW := Lib.hid hW
  unfold agg32
  rw [← hl, ← hm]
  have Hl := Lib.hid hl
  have Hm := Lib.hid hm
  have Htt := Lib.hid htt
  have Htop := Lib.hid htop
  clear hl hm htt hW htop
  go_enter Tryd.func4, Tryd.ntmps4
  go_wp2_with fail
  rw [← HW.out]
  refine (head_any ad fi W (hL.below hbW hL.h2)).mono ?_
  rintro e w1 ⟨rfl, hb1⟩
  replace c0 := (hb1.cell (show w.heap.size < _ by omega)).trans c0
  replace c1 := (hb1.cell (show w.heap.size < _ by omega)).trans c1
  replace c2 := (hb1.cell (show w.heap.size < _ by omega)).trans c2
  replace r1 := r1.below hb1 (by omega)
  replace r2 := r2.below hb1 (by omega)
  replace f2 := f2.below hb1 (by omega)
  have hb : Below w.heap.size w w1 := hbW.trans (hb1.mono (by omega))
  have hs1 : w.heap.size + 3 ≤ w1.heap.size := by have := hb1.size; omega
  by_cases h40 : 40 < n
  · have h40' : (40 : Int) < (n : Int) := by omega
    go_wp2
    go_ret
    exact ⟨rfl, hb⟩
  have h40' : ¬ (40 : Int) < (n : Int) := by omega
  have hr1 : w1.rangeAt (w.heap.size + 1) 0 l := by rw [Hl.out]; exact r1.range
  have Hr1 := Lib.hid hr1
  have hsl32 : l.length = 32 := by rw [Hl.out]; exact lst_length _ _
  have hszl : (Tryd.prog.info? 25).map (·.size) = some l.length := by rw [hsl32]; kernel_rfl
  have Hszl := Lib.hid hszl
  clear hr1 hsl32 hszl
  go_wp2_with (refine wpList_load_mid rfl 25 (.tmp 5) rfl (w.heap.size + 1) 0 rfl l _ Hr1.out Tryd.underlying25 rfl Hszl.out ?_)
  rw [Hl.out]
  refine (climb_any f fi ad br p ao n c w1 (hL.tabs.below hb (by have := hL.h2; omega)) hf hbr (by omega) (fun i hi => by
    obtain ⟨b, o, h1, h2, h3⟩ := hsl i hi
    exact ⟨b, o, h1, Nat.lt_of_lt_of_le h2 hb.size, h3.below hb h2⟩)).mono ?_
  rintro e w2 ⟨rfl, hb2⟩
  replace c0 := (hb2.cell (show w.heap.size < _ by omega)).trans c0
  replace c1 := (hb2.cell (show w.heap.size < _ by omega)).trans c1
  replace c2 := (hb2.cell (show w.heap.size < _ by omega)).trans c2
  replace r1 := r1.below hb2 (by omega)
  replace r2 := r2.below hb2 (by omega)
  replace f2 := f2.below hb2 (by omega)
  replace hb : Below w.heap.size w w2 := hb.trans (hb2.mono (by omega))
  have hs2 : w.heap.size + 3 ≤ w2.heap.size := by have := hb2.size; omega
  unfold agg32
  rw [← Htop.out, ← Htt.out]
  obtain ⟨z1, fz1⟩ := zeros32 w2 (fun _ => 0)
  have htl : t.length = 32 := by rw [Htt.out]; exact lst_length _ _
  have hth : (w2.alloc z32).there w2.heap.size 0 t.toArray.size := by simp only [List.size_toArray]; rw [htl]; exact z1.there fz1
  have hszt : (Tryd.prog.info? 25).map (·.size) = some t.length := by rw [htl]; kernel_rfl
  have honet : t.toArray.all (·.oneCell') = true := by rw [Htt.out]; exact one_all fun _ => rfl
  obtain ⟨X, hX⟩ : ∃ X, X = (w2.alloc z32).setCells w2.heap.size 0 t := ⟨_, rfl⟩
  have hbX : Below w2.heap.size w2 X := by rw [hX]; exact below_setCells (Nat.le_refl _) _ _ ((Below.refl _ _).alloc (Nat.le_refl _) _)
  have hsX : X.heap.size = w2.heap.size + 1 := by rw [hX, size_setCells]; simp
  have r9 : Row X w2.heap.size 0 32 (u8c top) := by rw [hX, Htt.out]; exact z1.setCells fz1 _
  replace c0 := (hbX.cell (show w.heap.size < _ by omega)).trans c0
  replace c1 := (hbX.cell (show w.heap.size < _ by omega)).trans c1
  replace c2 := (hbX.cell (show w.heap.size < _ by omega)).trans c2
  replace r1 := r1.below hbX (by omega)
  replace r2 := r2.below hbX (by omega)
  replace f2 := f2.below hbX (by omega)
  replace hb : Below w.heap.size w X := hb.trans (hbX.mono (by omega))
  have hr9 : X.rangeAt w2.heap.size 0 t := by rw [Htt.out]; exact r9.range
  have ht2 : X.there (w.heap.size + 1 + 1) 0 t.toArray.size := by simp only [List.size_toArray]; rw [htl]; exact r2.there f2
  have Hth := Lib.hid hth
  have Hszt := Lib.hid hszt
  have Honet := Lib.hid honet
  have HX := Lib.hid hX
  have Hr9 := Lib.hid hr9
  have Ht2 := Lib.hid ht2
  clear hth hszt honet hX hr9 ht2 htl
  go_upto_if 25 with (refine wpList_store_mid rfl 25 (.tmp 9) (.tmp 24) rfl w2.heap.size 0 t.toArray rfl rfl Hth.out (by simpa using Hszt.out) Honet.out ?_; rw [show (w2.alloc z32).setCells w2.heap.size 0 t.toArray.toList = X from HX.out.symm])
  obtain ⟨h, hh⟩ : ∃ h, h = if own = true then top else g := ⟨_, rfl⟩
  have Hh := Lib.hid hh
  clear hh
  go_cut [] (fun wx => Below (w.heap.size + 2) X wx ∧ Row wx (w.heap.size + 1 + 1) 0 32 (u8c h) ∧ Row wx w2.heap.size 0 32 (u8c top))
  case first =>
    cases own with
    | true =>
      go_wp2_with (first
        | (refine wpList_load_mid rfl 25 (.tmp 9) rfl w2.heap.size 0 rfl t _ Hr9.out Tryd.underlying25 rfl Hszt.out ?_)
        | (refine wpList_store_mid rfl 25 (.tmp 6) (.tmp 26) rfl (w.heap.size + 1 + 1) 0 t.toArray rfl rfl Ht2.out (by simpa using Hszt.out) Honet.out ?_))
      go_meet
      refine ⟨below_setCells (Nat.le_refl _) _ _ (Below.refl _ _), ?_, r9.setCells_other (by omega) _⟩
      rw [show h = top by rw [Hh.out]; simp]
      show Row (X.setCells _ 0 t) _ _ _ _
      rw [Htt.out]; exact r2.setCells f2 _
    | false =>
      go_wp2
      go_meet
      refine ⟨Below.refl _ _, ?_, r9⟩
      rw [show h = g by rw [Hh.out]; simp]
      exact r2
  case rest =>
    obtain ⟨hbx, rh, r9'⟩ := hcut
    have e0 : wc.cell? ⟨w.heap.size, 0, none⟩ = some (.int .i64 ht) := (hbx.cell (show w.heap.size < _ by omega)).trans c0
    have e1 : wc.cell? ⟨w.heap.size, 1, none⟩ = some (.int .i64 p) := (hbx.cell (show w.heap.size < _ by omega)).trans c1
    have e2 : wc.cell? ⟨w.heap.size, 2, none⟩ = some (.slice ao n c) := (hbx.cell (show w.heap.size < _ by omega)).trans c2
    have rl := r1.below hbx (by omega)
    have hbwx : Below w.heap.size w wc := hb.trans (hbx.mono (by omega))
    obtain ⟨x, hx⟩ : ∃ x, x = lst 32 (u8c h) := ⟨_, rfl⟩
    have hra : wc.rangeAt (w.heap.size + 1) 0 l := by rw [Hl.out]; exact rl.range
    have hrb : wc.rangeAt (w.heap.size + 1 + 1) 0 x := by rw [hx]; exact rh.range
    have hrc : wc.rangeAt w2.heap.size 0 t := by rw [Htt.out]; exact r9'.range
    have hsx : (Tryd.prog.info? 25).map (·.size) = some x.length := by rw [hx, lst_length]; kernel_rfl
    obtain ⟨eb, heb⟩ : ∃ eb, eb = heqB h top := ⟨_, rfl⟩
    have heq : ∀ W', (binOp .eql 25 (.agg x.toArray) (.agg t.toArray)).run Tryd.prog W' = .ok (.bool eb) W' := fun W' => by rw [Htt.out, hx, heb]; exact eql_hash _ _ W'
    have hfin : Calls Tryd.prog 12 #[.agg #[.int .i64 ht, .int .i64 p, .slice ao n c], .agg l.toArray, .agg x.toArray] wc fun e w' => e = .returned (.bool (holdsB p n eb)) ∧ Below w.heap.size w w' := by
      rw [Hl.out, hx, heb, heqB_symm, Htop.out]
      refine (holds_any ht p f h fi ad br ao n c wc (hL.tabs.below hbwx (by have := hL.h2; omega)) hf hbr (by omega) (fun i hi => by
        obtain ⟨b, o, h1, h2, h3⟩ := hsl i hi
        exact ⟨b, o, h1, Nat.lt_of_lt_of_le h2 hbwx.size, h3.below hbwx h2⟩)).mono ?_
      rintro e w3 ⟨rfl, hb3⟩
      exact ⟨rfl, hbwx.trans (hb3.mono hbwx.size)⟩
    have hbox : wc.rangeAt w.heap.size 0 [.int .i64 ht, .int .i64 p, .slice ao n c] := by
      intro j v hv
      match j, hv with
      | 0, hv => cases hv; exact e0
      | 1, hv => cases hv; exact e1
      | 2, hv => cases hv; exact e2
    have Hbox := Lib.hid hbox
    clear hbox
    have Hra := Lib.hid hra
    have Hrb := Lib.hid hrb
    have Hrc := Lib.hid hrc
    have Hsx := Lib.hid hsx
    have Hfin := Lib.hid hfin
    clear hra hrb hrc hsx hfin hx heb
    by_cases hp0 : 0 ≤ p
    · go_wp2
      go_loopw [11, 12] (fun av i wr => wr = wc ∧ ∃ k : Nat, k ≤ n ∧ i = .int .i64 k ∧ av = .int .i64 (p / 2 ^ k)) (fun _ i _ => n - (intOf i).toNat)
      case atStart => exact ⟨rfl, 0, by omega, rfl, by simp⟩
      case round =>
        obtain ⟨rfl, k, hk, rfl, rfl⟩ := hrel
        by_cases hkn : k < n
        · have hkn' : (k : Int) < (n : Int) := by omega
          obtain ⟨q, hq⟩ : ∃ q, q = p / 2 ^ k := ⟨_, rfl⟩
          have hq0 : 0 ≤ q := by rw [hq]; exact Int.ediv_nonneg hp0 (Int.pow_nonneg (by omega))
          have hqp : q ≤ p := by rw [hq]; exact Int.ediv_le_self _ hp0
          have hqn : q / 2 = p / 2 ^ (k + 1) := by rw [hq, Int.ediv_ediv_of_nonneg (Int.pow_nonneg (by omega)), Int.pow_succ]
          rw [← hq]
          have hwr : IntKind.i64.wrap (q.tdiv 2) = q / 2 := by rw [Int.tdiv_eq_ediv_of_nonneg hq0, IntKind.wrap_i64]; omega
          have Hqn := Lib.hid hqn
          clear hq hqn
          go_wp2
          go_roundw
          case rel => exact ⟨trivial, k + 1, by omega, by go_num, by rw [Hqn.out]⟩
          case measure => simp [intOf]; omega
        · obtain rfl : k = n := by omega
          have hkn' : ¬ (k : Int) < (k : Int) := by omega
          by_cases h30 : 30 < k
          · have h30' : (30 : Int) < (k : Int) := by omega
            go_wp2_with (first
              | (refine wpList_load_guarded rfl 25 (.tmp 5) rfl (w.heap.size + 1) 0 rfl l _ Hra.out Tryd.underlying25 rfl Hszl.out ?_)
              | (refine wpList_load_guarded rfl 25 (.tmp 6) rfl (w.heap.size + 1 + 1) 0 rfl x _ Hrb.out Tryd.underlying25 rfl Hsx.out ?_)
              | (refine wpList_load_guarded rfl 25 (.tmp 9) rfl w2.heap.size 0 rfl t _ Hrc.out Tryd.underlying25 rfl Hszt.out ?_)
              | (refine wpList_eql_guarded rfl 25 3 (.tmp 56) (.tmp 57) rfl x.toArray t.toArray rfl rfl (by kernel_rfl) _ (heq _) ?_)
              | (refine wpList_eql_guarded rfl 25 25 (.tmp 56) (.tmp 57) rfl x.toArray t.toArray rfl rfl (by kernel_rfl) _ (heq _) ?_))
            refine Hfin.out.mono ?_
            rintro e w3 ⟨rfl, hb3⟩
            go_wp2
            go_ret
            refine ⟨?_, hb3⟩
            show Ending.returned (.bool (holdsB p k eb == eb)) = _; rw [show holdsB p k eb = eb by unfold holdsB; rw [decide_eq_true hp0, decide_eq_true h30]; simp]; simp
          · have h30' : ¬ (30 : Int) < (k : Int) := by omega
            by_cases hz : p / 2 ^ k = 0
            · have hz' : (p / 2 ^ k == 0) = true := by simp [hz]
              go_wp2_with (first
              | (refine wpList_load_guarded rfl 25 (.tmp 5) rfl (w.heap.size + 1) 0 rfl l _ Hra.out Tryd.underlying25 rfl Hszl.out ?_)
              | (refine wpList_load_guarded rfl 25 (.tmp 6) rfl (w.heap.size + 1 + 1) 0 rfl x _ Hrb.out Tryd.underlying25 rfl Hsx.out ?_)
              | (refine wpList_load_guarded rfl 25 (.tmp 9) rfl w2.heap.size 0 rfl t _ Hrc.out Tryd.underlying25 rfl Hszt.out ?_)
              | (refine wpList_eql_guarded rfl 25 3 (.tmp 56) (.tmp 57) rfl x.toArray t.toArray rfl rfl (by kernel_rfl) _ (heq _) ?_)
              | (refine wpList_eql_guarded rfl 25 25 (.tmp 56) (.tmp 57) rfl x.toArray t.toArray rfl rfl (by kernel_rfl) _ (heq _) ?_))
              refine Hfin.out.mono ?_
              rintro e w3 ⟨rfl, hb3⟩
              go_wp2
              go_ret
              refine ⟨?_, hb3⟩
              show Ending.returned (.bool (holdsB p k eb == eb)) = _; rw [show holdsB p k eb = eb by unfold holdsB; rw [decide_eq_true hp0, decide_eq_true hz]; simp]; simp
            · have hz' : (p / 2 ^ k == 0) = false := by simp [hz]
              go_wp2_with (first
              | (refine wpList_load_guarded rfl 25 (.tmp 5) rfl (w.heap.size + 1) 0 rfl l _ Hra.out Tryd.underlying25 rfl Hszl.out ?_)
              | (refine wpList_load_guarded rfl 25 (.tmp 6) rfl (w.heap.size + 1 + 1) 0 rfl x _ Hrb.out Tryd.underlying25 rfl Hsx.out ?_)
              | (refine wpList_load_guarded rfl 25 (.tmp 9) rfl w2.heap.size 0 rfl t _ Hrc.out Tryd.underlying25 rfl Hszt.out ?_)
              | (refine wpList_eql_guarded rfl 25 3 (.tmp 56) (.tmp 57) rfl x.toArray t.toArray rfl rfl (by kernel_rfl) _ (heq _) ?_)
              | (refine wpList_eql_guarded rfl 25 25 (.tmp 56) (.tmp 57) rfl x.toArray t.toArray rfl rfl (by kernel_rfl) _ (heq _) ?_))
              refine Hfin.out.mono ?_
              rintro e w3 ⟨rfl, hb3⟩
              go_wp2
              go_ret
              refine ⟨?_, hb3⟩
              show Ending.returned (.bool (!holdsB p k eb)) = _; rw [show holdsB p k eb = false by unfold holdsB; rw [decide_eq_false hz, decide_eq_false (show ¬ 30 < k by omega)]; simp]; simp
    · have hp0' : decide (0 ≤ p) = false := decide_eq_false hp0
      go_wp2
      go_loopw [11, 12] (fun av i wr => wr = wc) (fun _ _ _ => 0)
      case atStart => rfl
      case round =>
        obtain rfl := hrel
        go_upto_region 15 with fail
        refine wp_region_lit ?_
        refine wpList_load_mid rfl 38 (.tmp 4) rfl w.heap.size 0 rfl [.int .i64 ht, .int .i64 p, .slice ao n c] _ Hbox.out Tryd.underlying38 rfl (by kernel_rfl) ?_
        refine wpList_load_mid rfl 25 (.tmp 5) rfl (w.heap.size + 1) 0 rfl l _ Hra.out Tryd.underlying25 rfl Hszl.out ?_
        refine wpList_load_mid rfl 25 (.tmp 6) rfl (w.heap.size + 1 + 1) 0 rfl x _ Hrb.out Tryd.underlying25 rfl Hsx.out ?_
        simp only [Act.put, List.setIfInBounds_toArray, List.set_cons_succ, List.set_cons_zero]
        go_wp2_with fail
        refine Hfin.out.mono ?_
        rintro e w3 ⟨rfl, hb3⟩
        go_wp2
        go_ret
        refine ⟨?_, hb3⟩
        show Ending.returned (.bool (!holdsB p n eb)) = _; rw [show holdsB p n eb = false by unfold holdsB; rw [hp0']; simp]; simp
end Go.Proofs.YtaknoodgpkdhbaaDoor
