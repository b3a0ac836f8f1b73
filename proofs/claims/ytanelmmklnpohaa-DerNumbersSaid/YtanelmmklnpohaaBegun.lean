/-
  Walk of the law's own first look: begun returns true.
  Conditions: none beyond the walks' own.
-/
import Derived.Test.YtanelmmklnpohaaDer17
namespace Go.Proofs.Ytanelmmklnpohaa
open Go.RowKit
set_option linter.unusedVariables false
set_option linter.unusedSimpArgs false

theorem b_dig : Dig 256 [2, 2, 0, 128] := Dig.cons.2 ⟨by omega, Dig.cons.2 ⟨by omega, Dig.cons.2 ⟨by omega, Dig.cons.2 ⟨by omega, Dig.nil⟩⟩⟩⟩
theorem b_int : IntN 128 = .mk 2 [0, 128] [] := by
  have : bebytes (blen 128 / 8 + 1) 128 = [0, 128] := by decide +kernel
  unfold IntN
  rw [this]
theorem b_write : WriteN (.mk 2 [0, 128] []) = some [2, 2, 0, 128] := by decide +kernel
theorem b_read : ReadN [2, 2, 0, 128] = some (.mk 2 [0, 128] [], 4) := by
  have := write_read (n := .mk 2 [0, 128] []) (c := [2, 2, 0, 128]) (more := []) b_write (by unfold DigN; exact ⟨Dig.cons.2 ⟨by omega, Dig.cons.2 ⟨by omega, Dig.nil⟩⟩, trivial⟩) Dig.nil
  simpa using this
theorem b_oid : oidN [1, 2, 840] = some [42, 134, 72] := by decide +kernel
theorem b_may6 : MayN (.mk 6 [42, 134, 72] []) = true := by decide +kernel
theorem b_arcs : arcsOf (.mk 6 [42, 134, 72] []) = some [1, 2, 840] := by
  simp only [arcsOf]
  rw [if_pos trivial, if_pos b_may6]
  exact arcs_oid b_oid
theorem b_may2 : MayN (.mk 2 [0, 128] []) = true := by decide +kernel
theorem b_nat : NatN (.mk 2 [0, 128] []) = some 128 := by
  simp only [NatN]
  rw [if_pos trivial, if_pos b_may2]
  decide +kernel

theorem eq_fn (d : Nat) (f : FuncId) (a : Array Value) (w : World) : (Op.equalIn (d + 1) 59 (.func (.func f) #[] a) .nilFunc).run Try.prog w = .ok false w := by
  have hu : Try.prog.underlying 59 = _ := Try.underlying59
  simp [Op.equalIn, run_underlying hu, go_sem]
theorem neq_fn (f : FuncId) (a : Array Value) (w : World) : (binOp .neq 59 (.func (.func f) #[] a) .nilFunc).run Try.prog w = .ok (.bool true) w := by
  have h : (Op.equal 59 (.func (.func f) #[] a) .nilFunc).run Try.prog w = .ok false w := eq_fn _ f a w
  simp [binOp, go_sem, h]

set_option maxHeartbeats 4000000 in
set_option maxRecDepth 100000 in
theorem law_begun (w : World) : Calls Try.prog 7 #[] w fun e w' => e = .returned (.bool true) ∧ Below w.heap.size w w' := by
  have BI := Lib.hid b_int
  have BW := Lib.hid b_write
  have BR := Lib.hid b_read
  have BO := Lib.hid b_oid
  have BA := Lib.hid b_arcs
  have BN := Lib.hid b_nat
  have BM := Lib.hid b_may2
  have NV : Hid (Num (w.alloc (.cells #[.int .u64 128] 57)) w.heap.size (w.heap.size + 1) (2 ^ 64) 128 (.slice (some ⟨w.heap.size, 0, none⟩) 1 1)) :=
    Lib.hid ⟨[128], _, 1, rfl, by simp, by simp [maxLen], by simp, Dig.cons.2 ⟨by omega, Dig.nil⟩, by decide +kernel, rd_lit w (.int .u64 128) 57⟩
  have B0 := Lib.hid ((Below.refl w.heap.size w).alloc (Nat.le_refl _) (.cells #[.int .u64 128] 57))
  have hs0 : (w.alloc (.cells #[.int .u64 128] 57)).heap.size = w.heap.size + 1 := by simp
  go_enter Try.func7, Try.ntmps7
  go_wp2_with fail
  generalize w.alloc (.cells #[.int .u64 128] 57) = W0 at *
  refine Calls.mono (der_Int NV.out (by omega) (by decide +kernel)) ?_
  rintro e w1 ⟨hb1, t1, A1, n1, c1, A1', n1', c1', rfl, hr1⟩
  rw [BI.out] at hr1
  have B1 := Lib.hid ((below_then B0.out (by omega) hb1).alloc (by have := hb1.size; omega) (.cells #[.int .i64 t1, .slice A1 n1 c1, .slice A1' n1' c1'] 25))
  have RN := Lib.hid (hr1.alloc (Nat.le_refl _) (.cells #[.int .i64 t1, .slice A1 n1 c1, .slice A1' n1' c1'] 25))
  have KN := Lib.hid (Blk.made (w := w1) (v0 := .int .i64 t1) (v1 := .slice A1 n1 c1) (v2 := .slice A1' n1' c1') (t := 25) (g := w1.heap.size) rfl)
  have hs1 : (w1.alloc (.cells #[.int .i64 t1, .slice A1 n1 c1, .slice A1' n1' c1'] 25)).heap.size = w1.heap.size + 1 := by simp
  have hw1 := hb1.size
  clear hb1 hr1 B0 NV
  obtain ⟨⟨k0, k1, k2⟩, kf0, kf1, kf2⟩ := KN.out
  go_wp2_with fail
  generalize w1.alloc (.cells #[.int .i64 t1, .slice A1 n1 c1, .slice A1' n1' c1'] 25) = w2 at *
  have S1 := Lib.hid hs1
  have SW1 := Lib.hid hw1
  have S0 := Lib.hid hs0
  clear hs1 hw1 hs0 k0 k1 k2 kf0 kf1 kf2
  refine Calls.mono (der_Write RN.out (by have := S1.out; omega)) ?_
  rw [BW.out]
  rintro e w3 ⟨A3, c3, rfl, hc3, hm3, _, hr3, hb3⟩
  simp only [Option.getD_some, List.length_cons, List.length_nil] at hc3 hr3
  have B3 := Lib.hid (below_then B1.out B1.out.size hb3)
  have KN3 := Lib.hid (KN.out.below hb3 KN.out.lt)
  have RN3 := Lib.hid (RN.out.below hb3 (by have := S1.out; omega))
  have R3 := Lib.hid hr3
  have S3 := Lib.hid (show w1.heap.size + 1 ≤ w3.heap.size by have := S1.out; have := hb3.size; omega)
  clear hb3 hr3 KN RN B1
  go_wp2_with fail
  refine Calls.mono (der_Read (b := [2, 2, 0, 128]) R3.out (Nat.le_refl _) (by simp) hc3 hm3 b_dig) ?_
  rw [BR.out]
  rintro e w4 ⟨hb4, t4, A4, n4, c4, A4', n4', c4', rfl, _, hr4⟩
  replace hr4 := hr4 _ _ rfl
  have B4 := Lib.hid ((below_then B3.out B3.out.size hb4).alloc (by have := hb4.size; have := B3.out.size; omega) (.cells #[.int .i64 t4, .slice A4 n4 c4, .slice A4' n4' c4'] 25))
  have KN4 := Lib.hid ((KN3.out.below hb4 KN3.out.lt).alloc (.cells #[.int .i64 t4, .slice A4 n4 c4, .slice A4' n4' c4'] 25))
  have RN4 := Lib.hid ((RN3.out.below hb4 (by have := S3.out; omega)).alloc (by have := S3.out; have := hb4.size; omega) (.cells #[.int .i64 t4, .slice A4 n4 c4, .slice A4' n4' c4'] 25))
  have R4 := Lib.hid ((R3.out.below hb4 (Nat.le_refl _)).alloc hb4.size (.cells #[.int .i64 t4, .slice A4 n4 c4, .slice A4' n4' c4'] 25))
  have RM := Lib.hid (hr4.alloc (Nat.le_refl _) (.cells #[.int .i64 t4, .slice A4 n4 c4, .slice A4' n4' c4'] 25))
  have KM := Lib.hid (Blk.made (w := w4) (v0 := .int .i64 t4) (v1 := .slice A4 n4 c4) (v2 := .slice A4' n4' c4') (t := 25) (g := w4.heap.size) rfl)
  have hs4 : (w4.alloc (.cells #[.int .i64 t4, .slice A4 n4 c4, .slice A4' n4' c4'] 25)).heap.size = w4.heap.size + 1 := by simp
  have S4 := Lib.hid (show w3.heap.size ≤ w4.heap.size from hb4.size)
  clear hb4 hr4 B3 KN3 RN3 R3
  go_wp2_with fail
  generalize w4.alloc (.cells #[.int .i64 t4, .slice A4 n4 c4, .slice A4' n4' c4'] 25) = w5 at *
  have S5 := Lib.hid hs4
  clear hs4
  have RA := rd_lit3 w5 (.int .i64 1) (.int .i64 2) (.int .i64 840) 3
  rw [S5.out] at RA
  have RAH := Lib.hid (show Rd (w5.alloc (.cells #[.int .i64 1, .int .i64 2, .int .i64 840] 3)) (w4.heap.size + 1) (w4.heap.size + 1 + 1) (some ⟨w4.heap.size + 1, 0, none⟩) (ints [1, 2, 840]) from RA)
  have B5 := Lib.hid (B4.out.alloc B4.out.size (.cells #[.int .i64 1, .int .i64 2, .int .i64 840] 3))
  have KN5 := Lib.hid (KN4.out.alloc (.cells #[.int .i64 1, .int .i64 2, .int .i64 840] 3))
  have RN5 := Lib.hid (RN4.out.alloc (by have := S5.out; have := S3.out; have := S4.out; omega) (.cells #[.int .i64 1, .int .i64 2, .int .i64 840] 3))
  have R5 := Lib.hid (R4.out.alloc (by have := S5.out; have := S4.out; omega) (.cells #[.int .i64 1, .int .i64 2, .int .i64 840] 3))
  have RM5 := Lib.hid (RM.out.alloc (by have := S5.out; omega) (.cells #[.int .i64 1, .int .i64 2, .int .i64 840] 3))
  have KM5 := Lib.hid (KM.out.alloc (.cells #[.int .i64 1, .int .i64 2, .int .i64 840] 3))
  have hs6 : (w5.alloc (.cells #[.int .i64 1, .int .i64 2, .int .i64 840] 3)).heap.size = w4.heap.size + 2 := by rw [World.size_alloc, S5.out]
  clear RA B4 KN4 RN4 R4 RM KM
  generalize w5.alloc (.cells #[.int .i64 1, .int .i64 2, .int .i64 840] 3) = w6 at *
  have S6 := Lib.hid hs6
  clear hs6
  refine Calls.mono (der_OID (l := [1, 2, 840]) (c := 3) RAH.out (by have := S6.out; omega) (by simp) (by simp) (by simp [maxLen])) ?_
  rw [BO.out]
  rintro e w7 ⟨hb7, t7, A7, n7, c7, A7', n7', c7', rfl, _, hr7⟩
  replace hr7 := hr7 _ rfl
  have hsz7 := hb7.size
  have B7 := Lib.hid ((below_then B5.out B5.out.size hb7).alloc (by have := B5.out.size; omega) (.cells #[.int .i64 t7, .slice A7 n7 c7, .slice A7' n7' c7'] 25))
  have KN7 := Lib.hid ((KN5.out.below hb7 KN5.out.lt).alloc (.cells #[.int .i64 t7, .slice A7 n7 c7, .slice A7' n7' c7'] 25))
  have RN7 := Lib.hid ((RN5.out.below hb7 (by have := S6.out; have := S3.out; have := S4.out; omega)).alloc (by have := S6.out; have := S3.out; have := S4.out; omega) (.cells #[.int .i64 t7, .slice A7 n7 c7, .slice A7' n7' c7'] 25))
  have R7 := Lib.hid ((R5.out.below hb7 (by have := S6.out; have := S4.out; omega)).alloc (by have := S6.out; have := S4.out; omega) (.cells #[.int .i64 t7, .slice A7 n7 c7, .slice A7' n7' c7'] 25))
  have RM7 := Lib.hid ((RM5.out.below hb7 (by have := S6.out; omega)).alloc (by have := S6.out; omega) (.cells #[.int .i64 t7, .slice A7 n7 c7, .slice A7' n7' c7'] 25))
  have KM7 := Lib.hid ((KM5.out.below hb7 KM5.out.lt).alloc (.cells #[.int .i64 t7, .slice A7 n7 c7, .slice A7' n7' c7'] 25))
  have RO7 := Lib.hid (hr7.alloc (Nat.le_refl _) (.cells #[.int .i64 t7, .slice A7 n7 c7, .slice A7' n7' c7'] 25))
  have KO7 := Lib.hid (Blk.made (w := w7) (v0 := .int .i64 t7) (v1 := .slice A7 n7 c7) (v2 := .slice A7' n7' c7') (t := 25) (g := w7.heap.size) rfl)
  have S7 := Lib.hid (show w4.heap.size + 2 ≤ w7.heap.size by have := S6.out; omega)
  clear B5 KN5 RN5 R5 RM5 KM5 hb7 hr7 RAH hsz7
  obtain ⟨⟨k0, k1, k2⟩, kf0, kf1, kf2⟩ := KO7.out
  go_wp2_with fail
  have hs8 : (w7.alloc (.cells #[.int .i64 t7, .slice A7 n7 c7, .slice A7' n7' c7'] 25)).heap.size = w7.heap.size + 1 := by simp
  generalize w7.alloc (.cells #[.int .i64 t7, .slice A7 n7 c7, .slice A7' n7' c7'] 25) = w8 at *
  have S8 := Lib.hid hs8
  clear hs8 k0 k1 k2 kf0 kf1 kf2
  refine Calls.mono (der_Arcs RO7.out (by have := S8.out; omega)) ?_
  rw [BA.out]
  rintro e w9 ⟨hb9, A9, n9, c9, rfl, _, hl9⟩
  obtain ⟨rfl, _, _, _⟩ := hl9 _ rfl
  have hsz9 := hb9.size
  have B9 := Lib.hid (below_then B7.out B7.out.size hb9)
  have KN9 := Lib.hid (KN7.out.below hb9 KN7.out.lt)
  have RN9 := Lib.hid (RN7.out.below hb9 (by have := S8.out; have := S7.out; have := S3.out; have := S4.out; omega))
  have R9 := Lib.hid (R7.out.below hb9 (by have := S8.out; have := S7.out; have := S4.out; omega))
  have RM9 := Lib.hid (RM7.out.below hb9 (by have := S8.out; have := S7.out; omega))
  have KM9 := Lib.hid (KM7.out.below hb9 KM7.out.lt)
  have S9 := Lib.hid (show w4.heap.size + 3 ≤ w9.heap.size by have := S8.out; have := S7.out; omega)
  clear B7 KN7 RN7 R7 RM7 KM7 RO7 KO7 hb9 hl9 hsz9
  obtain ⟨⟨k0, k1, k2⟩, kf0, kf1, kf2⟩ := KM9.out
  go_wp2_with fail
  clear k0 k1 k2 kf0 kf1 kf2
  refine Calls.mono (der_Nat RM9.out (by have := S9.out; omega)) ?_
  rw [BN.out]
  rintro e w10 ⟨hb10, V10, rfl, _, hv10⟩
  obtain ⟨xs, Ax, cx, rfl, _, _, _, hcan, hval, _⟩ := hv10 _ rfl
  have hx1 : xs.length = 1 := by
    have := canon_inj (b := 2 ^ 64) (by decide) hcan (show Canon (2 ^ 64) [128] from ⟨Dig.cons.2 ⟨by omega, Dig.nil⟩, by simp⟩) (by rw [hval]; rfl)
    rw [this]; rfl
  rw [hx1]
  have B10 := Lib.hid (below_then B9.out B9.out.size hb10)
  have KN10 := Lib.hid (KN9.out.below hb10 KN9.out.lt)
  have RN10 := Lib.hid (RN9.out.below hb10 (by have := S9.out; have := S3.out; have := S4.out; omega))
  have R10 := Lib.hid (R9.out.below hb10 (by have := S9.out; have := S4.out; omega))
  have S10 := Lib.hid (show w4.heap.size + 3 ≤ w10.heap.size by have := S9.out; have := hb10.size; omega)
  clear B9 KN9 RN9 R9 RM9 KM9 hb10 hv10 hcan hval
  obtain ⟨⟨k0, k1, k2⟩, kf0, kf1, kf2⟩ := KN10.out
  go_wp2_with fail
  clear k0 k1 k2 kf0 kf1 kf2
  refine Calls.mono (der_Walk t1 A1 n1 c1 A1' n1' c1' w10) ?_
  rintro e w11 ⟨⟨fw, rfl⟩, rfl⟩
  have B11 := Lib.hid (B10.out.alloc B10.out.size (.cells #[.int .i64 t1, .slice A1 n1 c1, .slice A1' n1' c1'] 25))
  have KN11 := Lib.hid (KN10.out.alloc (.cells #[.int .i64 t1, .slice A1 n1 c1, .slice A1' n1' c1'] 25))
  have RN11 := Lib.hid (RN10.out.alloc (by have := S10.out; have := S3.out; have := S4.out; omega) (.cells #[.int .i64 t1, .slice A1 n1 c1, .slice A1' n1' c1'] 25))
  have R11 := Lib.hid (R10.out.alloc (by have := S10.out; have := S4.out; omega) (.cells #[.int .i64 t1, .slice A1 n1 c1, .slice A1' n1' c1'] 25))
  have hs11 : (w10.alloc (.cells #[.int .i64 t1, .slice A1 n1 c1, .slice A1' n1' c1'] 25)).heap.size = w10.heap.size + 1 := by simp
  clear B10 KN10 RN10 R10
  generalize w10.alloc (.cells #[.int .i64 t1, .slice A1 n1 c1, .slice A1' n1' c1'] 25) = w11 at *
  have S11 := Lib.hid hs11
  clear hs11
  have hcv := conv_rd (c := c3) R11.out
  have hst : strN [2, 2, 0, 128] = ⟨#[2, 2, 0, 128]⟩ := by decide +kernel
  rw [hst, show ([2, 2, 0, 128] : List Nat).length = 4 from rfl] at hcv
  clear hst
  obtain ⟨⟨k0, k1, k2⟩, kf0, kf1, kf2⟩ := KN11.out
  have hneq := fun a w => neq_fn fw a w
  go_wp2_with fail
  clear k0 k1 k2 kf0 kf1 kf2
  refine Calls.mono (der_May RN11.out (by have := S11.out; have := S10.out; have := S3.out; have := S4.out; omega)) ?_
  rw [BM.out]
  rintro e w12 ⟨rfl, hb12⟩
  go_wp2
  go_ret
  exact ⟨rfl, below_then B11.out B11.out.size hb12⟩
end Go.Proofs.Ytanelmmklnpohaa
