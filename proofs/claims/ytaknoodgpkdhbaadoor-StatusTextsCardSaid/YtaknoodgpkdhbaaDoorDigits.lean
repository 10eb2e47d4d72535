/- The contract of the law's digits. -/
import Derived.Test.YtaknoodgpkdhbaaDoorHead
import Derived.Deep.RegionWith

namespace Go.Proofs.YtaknoodgpkdhbaaDoor
open Go.RowKit Go.Sort

theorem dig_big {u : Nat} (h : ¬ u < 10) : Lib.decDigits u = Lib.decDigits (u / 10) ++ [UInt8.ofNat (48 + u % 10)] := by rw [Lib.decDigits, dif_neg h]
theorem itoa_small {n : Int} (h0 : 0 ≤ n) (h : n < 10) : Lib.itoa n = [UInt8.ofNat (48 + n.toNat)] := by
  unfold Lib.itoa; rw [if_neg (by omega), Lib.decDigits_one (by omega)]
theorem itoa_big {n : Int} (h : 10 ≤ n) : Lib.itoa n = Lib.itoa (n / 10) ++ [UInt8.ofNat (48 + (n % 10).toNat)] := by
  unfold Lib.itoa
  rw [if_neg (by omega), if_neg (by omega), dig_big (by omega), show (n / 10).toNat = n.toNat / 10 by omega, show (n % 10).toNat = n.toNat % 10 by omega]
theorem itoa_nsmall {n : Int} (h0 : n < 0) (h : -10 < n) : Lib.itoa n = [45, UInt8.ofNat (48 + n.natAbs)] := by
  unfold Lib.itoa; rw [if_pos h0, Lib.decDigits_one (by omega)]
theorem itoa_nbig {n q : Int} (h : n ≤ -10) (hq : q = -(-n / 10)) : Lib.itoa n = Lib.itoa q ++ [UInt8.ofNat (48 + n.natAbs % 10)] := by
  unfold Lib.itoa
  rw [if_pos (by omega), if_pos (by omega), dig_big (by omega), show q.natAbs = n.natAbs / 10 by omega]
  rfl

theorem tdiv_neg10 {n : Int} (h : n ≤ 0) : n.tdiv 10 = -(-n / 10) := by
  rw [← Int.tdiv_eq_ediv_of_nonneg (by omega), Int.neg_tdiv, Int.neg_neg]
theorem tmod_neg10 {n : Int} (h : n ≤ 0) : n.tmod 10 = -(-n % 10) := by
  rw [← Int.tmod_eq_emod_of_nonneg (by omega), Int.neg_tmod, Int.neg_neg]
theorem bytes_snoc (l : List UInt8) (b : UInt8) : (⟨l.toArray⟩ : ByteArray) ++ ⟨#[b]⟩ = ⟨(l ++ [b]).toArray⟩ := by
  apply ByteArray.ext
  simp
theorem conv_one (b : UInt8) (w : World) (k : Nat) (h : w.cell? ⟨k, 0, none⟩ = some (.int .u8 b.toNat)) : (convert 34 9 (.slice (some ⟨k, 0, none⟩) 1 1)).run Tryd.prog w = .ok (.string ⟨#[b]⟩) w :=
  run_convert_bytes_back (P := Tryd.prog) w 34 9 5 ⟨k, 0, none⟩ 1 [b] Tryd.underlying34 Tryd.underlying5 Tryd.underlying9 (fun j hj => by
    rw [Addr.add_mid]
    have : j = 0 := by simpa using hj
    subst this
    simpa using h)

set_option maxRecDepth 100000 in
set_option maxHeartbeats 1000000 in
theorem digits_any : ∀ (m : Nat) (n : Int), n.natAbs ≤ m → -9223372036854775808 ≤ n → n ≤ 9223372036854775807 → ∀ w : World,
    Calls Tryd.prog 7 #[.int .i64 n] w fun e w' => e = .returned (.string ⟨(Lib.itoa n).toArray⟩) ∧ Below w.heap.size w w' := by
  intro m
  induction m with
  | zero =>
    intro n hm hlo hhi w
    obtain rfl : n = 0 := by omega
    have hc := conv_one 48 (w.alloc (.cells #[.int .u8 48] 5)) w.heap.size (by go_simp)
    go_enter Tryd.func7, Tryd.ntmps7
    go_wp2
    go_ret
    exact ⟨by rw [itoa_small (by decide) (by decide)]; rfl, (Below.refl _ _).alloc (Nat.le_refl _) _⟩
  | succ m ih =>
    intro n hm hlo hhi w
    by_cases hn : n < 0
    · by_cases h10 : -10 < n
      · obtain ⟨b, hb⟩ : ∃ b : UInt8, b = UInt8.ofNat (48 + n.natAbs) := ⟨_, rfl⟩
        have hlt := b.toNat_lt
        have hbn : (b.toNat : Int) = 48 - n := by
          rw [hb, UInt8.toNat_ofNat']
          omega
        have e0 : n.tdiv 10 = 0 := by rw [tdiv_neg10 (by omega)]; omega
        have e1 : IntKind.i64.wrap (48 - n) = b.toNat := by rw [IntKind.wrap_i64]; omega
        have e2 : IntKind.u8.wrap (b.toNat : Int) = b.toNat := by rw [wraps_u8] <;> omega
        have hc := conv_one b (w.alloc (.cells #[.int .u8 b.toNat] 5)) w.heap.size (by go_simp)
        have Hb := Lib.hid hb
        clear hb hbn ih hlt
        go_enter Tryd.func7, Tryd.ntmps7
        go_wp2
        go_ret
        exact ⟨by rw [itoa_nsmall hn h10, ← Hb.out]; rfl, (Below.refl _ _).alloc (Nat.le_refl _) _⟩
      · obtain ⟨b, hb⟩ : ∃ b : UInt8, b = UInt8.ofNat (48 + n.natAbs % 10) := ⟨_, rfl⟩
        have hlt := b.toNat_lt
        have hbn : (b.toNat : Int) = 48 + -n % 10 := by
          rw [hb, UInt8.toNat_ofNat']
          omega
        obtain ⟨q, hq⟩ : ∃ q, q = -(-n / 10) := ⟨_, rfl⟩
        obtain ⟨s, hs⟩ : ∃ s : ByteArray, s = ⟨(Lib.itoa q).toArray⟩ := ⟨_, rfl⟩
        have hq0 : (q == 0) = false := by simp; omega
        have e0 : n.tdiv 10 = q := by rw [tdiv_neg10 (by omega), hq]
        have e3 : IntKind.i64.wrap q = q := by rw [IntKind.wrap_i64]; omega
        have e4 : n.tmod 10 = -(-n % 10) := tmod_neg10 (by omega)
        have e1 : IntKind.i64.wrap (48 + -n % 10) = b.toNat := by rw [IntKind.wrap_i64]; omega
        have e2 : IntKind.u8.wrap (b.toNat : Int) = b.toNat := by rw [wraps_u8] <;> omega
        have e5 : IntKind.i64.wrap (-(-n % 10)) = -(-n % 10) := by rw [IntKind.wrap_i64]; omega
        have hz : s.size ≤ 21 := by rw [hs]; show (Lib.itoa q).toArray.size ≤ 21; rw [List.size_toArray]; exact Lib.itoa_length_le q (by omega) (by omega)
        have ez : (ByteArray.mk #[b]).size = 1 := rfl
        have hc := conv_one b
        have hcall : ∀ w : World, Calls Tryd.prog 7 #[.int .i64 q] w fun e w' => e = .returned (.string s) ∧ Below w.heap.size w w' := fun w => by rw [hs]; exact ih q (by omega) (by omega) (by omega) w
        have Hfin : Hid (s ++ ⟨#[b]⟩ = ⟨(Lib.itoa n).toArray⟩) := Lib.hid (by rw [itoa_nbig (by omega) hq, ← hb, hs]; exact bytes_snoc _ _)
        clear hb hbn ih hlt hq hs
        go_enter Tryd.func7, Tryd.ntmps7
        have hk0 : ∀ w1, Below (w.alloc (.cells #[.int .u8 b.toNat] 5)).drew.heap.size (w.alloc (.cells #[.int .u8 b.toNat] 5)).drew w1 → (convert 34 9 (.slice (some ⟨w.heap.size, 0, none⟩) 1 1)).run Tryd.prog w1 = .ok (.string ⟨#[b]⟩) w1 := by
          intro w1 hb1
          refine hc w1 _ ((hb1.cell ?_).trans ?_)
          · show w.heap.size < (w.heap.push _).size
            simp
          · go_simp
        go_upto_region 4 with fail
        go_region_with (go_at_call 7; refine (hcall _).mono ?_; rintro e w1 ⟨rfl, hb1⟩; try (have hk := hk0 w1 hb1))
        all_goals go_wp2
        all_goals go_ret
        all_goals refine ⟨congrArg (fun l => Ending.returned (.string l)) Hfin.out, ?_⟩
        all_goals first
          | exact (((Below.refl w.heap.size w).drew).trans hb1).alloc hb1.size _
          | exact (((Below.refl w.heap.size w).alloc (Nat.le_refl _) (.cells #[.int .u8 b.toNat] 5)).drew).trans (hb1.mono (show w.heap.size ≤ (w.heap.push _).size by simp))
    · by_cases h10 : n < 10
      · obtain ⟨b, hb⟩ : ∃ b : UInt8, b = UInt8.ofNat (48 + n.toNat) := ⟨_, rfl⟩
        have hlt := b.toNat_lt
        have hbn : (b.toNat : Int) = 48 + n := by
          rw [hb, UInt8.toNat_ofNat']
          omega
        have e1 : IntKind.i64.wrap (48 + n) = b.toNat := by rw [IntKind.wrap_i64]; omega
        have e2 : IntKind.u8.wrap (b.toNat : Int) = b.toNat := by rw [wraps_u8] <;> omega
        have hc := conv_one b (w.alloc (.cells #[.int .u8 b.toNat] 5)) w.heap.size (by go_simp)
        have Hb := Lib.hid hb
        clear hb hbn ih hlt
        go_enter Tryd.func7, Tryd.ntmps7
        go_wp2
        go_ret
        exact ⟨by rw [itoa_small (by omega) h10, ← Hb.out]; rfl, (Below.refl _ _).alloc (Nat.le_refl _) _⟩
      · obtain ⟨b, hb⟩ : ∃ b : UInt8, b = UInt8.ofNat (48 + (n % 10).toNat) := ⟨_, rfl⟩
        have hlt := b.toNat_lt
        have hbn : (b.toNat : Int) = 48 + n % 10 := by
          rw [hb, UInt8.toNat_ofNat']
          omega
        obtain ⟨q, hq⟩ : ∃ q, q = n / 10 := ⟨_, rfl⟩
        obtain ⟨s, hs⟩ : ∃ s : ByteArray, s = ⟨(Lib.itoa q).toArray⟩ := ⟨_, rfl⟩
        have e0 : n.tdiv 10 = q := by rw [Int.tdiv_eq_ediv_of_nonneg (by omega), hq]
        have e3 : IntKind.i64.wrap q = q := by rw [IntKind.wrap_i64]; omega
        have e4 : n.tmod 10 = n % 10 := Int.tmod_eq_emod_of_nonneg (by omega)
        have e1 : IntKind.i64.wrap (48 + n % 10) = b.toNat := by rw [IntKind.wrap_i64]; omega
        have e2 : IntKind.u8.wrap (b.toNat : Int) = b.toNat := by rw [wraps_u8] <;> omega
        have e5 : IntKind.i64.wrap (n % 10) = n % 10 := by rw [IntKind.wrap_i64]; omega
        have hz : s.size ≤ 21 := by rw [hs]; show (Lib.itoa q).toArray.size ≤ 21; rw [List.size_toArray]; exact Lib.itoa_length_le q (by omega) (by omega)
        have ez : (ByteArray.mk #[b]).size = 1 := rfl
        have hc := conv_one b
        have hcall : ∀ w : World, Calls Tryd.prog 7 #[.int .i64 q] w fun e w' => e = .returned (.string s) ∧ Below w.heap.size w w' := fun w => by rw [hs]; exact ih q (by omega) (by omega) (by omega) w
        have Hfin : Hid (s ++ ⟨#[b]⟩ = ⟨(Lib.itoa n).toArray⟩) := Lib.hid (by rw [itoa_big (by omega), ← hq, ← hb, hs]; exact bytes_snoc _ _)
        clear hb hbn ih hlt hq hs
        go_enter Tryd.func7, Tryd.ntmps7
        have hk0 : ∀ w1, Below (w.alloc (.cells #[.int .u8 b.toNat] 5)).drew.heap.size (w.alloc (.cells #[.int .u8 b.toNat] 5)).drew w1 → (convert 34 9 (.slice (some ⟨w.heap.size, 0, none⟩) 1 1)).run Tryd.prog w1 = .ok (.string ⟨#[b]⟩) w1 := by
          intro w1 hb1
          refine hc w1 _ ((hb1.cell ?_).trans ?_)
          · show w.heap.size < (w.heap.push _).size
            simp
          · go_simp
        go_upto_region 7 with fail
        go_region_with (go_at_call 7; refine (hcall _).mono ?_; rintro e w1 ⟨rfl, hb1⟩; try (have hk := hk0 w1 hb1))
        all_goals go_wp2
        all_goals go_ret
        all_goals refine ⟨congrArg (fun l => Ending.returned (.string l)) Hfin.out, ?_⟩
        all_goals first
          | exact (((Below.refl w.heap.size w).drew).trans hb1).alloc hb1.size _
          | exact (((Below.refl w.heap.size w).alloc (Nat.le_refl _) (.cells #[.int .u8 b.toNat] 5)).drew).trans (hb1.mono (show w.heap.size ≤ (w.heap.push _).size by simp))
end Go.Proofs.YtaknoodgpkdhbaaDoor
