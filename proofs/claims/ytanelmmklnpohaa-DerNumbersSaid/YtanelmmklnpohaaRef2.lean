/-
  Walks of the package baileyref1, more: bits, bytes, and whether an answer is a number; the cuts of the laws' packages.
  Conditions: lengths below 2^20.
-/
import Derived.Test.YtanelmmklnpohaaRef1
namespace Go.Proofs.Ytanelmmklnpohaa
open Go.RowKit
set_option linter.unusedVariables false
set_option linter.unusedSimpArgs false

set_option maxHeartbeats 800000 in
theorem ref1_bits {w : World} {L B v : Nat} {V : Value} (h : Big w L B (2 ^ 32) v V) :
    Calls Try.prog 43 #[V] w fun e w' => e = .returned (.int .i64 (blen v : Int)) ∧ w = w' := by
  obtain ⟨ys, A, c, rfl, h1, h2, h3, h4, h5, h6⟩ := h
  have H5 := Lib.hid h5
  clear h5
  rcases Nat.eq_zero_or_pos ys.length with h0 | h0
  · have hys : ys = [] := List.eq_nil_of_length_eq_zero h0
    subst hys
    have hv : v = 0 := by rw [← H5.out]; rfl
    subst hv
    go_enter Try.func43, Try.ntmps43
    go_wp2
    go_ret
    exact ⟨rfl, rfl⟩
  · obtain ⟨m, hm⟩ : ∃ m, ys.length = m + 1 := ⟨ys.length - 1, by omega⟩
    have HB : Hid (blen v = 32 * m + blen (ys.getD m 0)) := by
      have := blen_val h4 h0
      rw [H5.out, hm, Nat.add_sub_cancel] at this
      exact this
    obtain ⟨b, off, rfl, _, _, hcell⟩ := h6.num (i := m) (by omega)
    have hc := hcell m (by omega)
    have hx := h4.1.get (by omega) m
    clear hcell h6
    rw [hm] at h1 h3 ⊢
    have h0' : ((m : Int) + 1 == 0) = false := by rw [beq_eq_false_iff_ne]; omega
    clear h4 hm h0
    generalize ys.getD m 0 = x at hc HB hx
    have hb : blen x ≤ 32 := blen_le.2 hx
    have hx' : x < 4294967296 := hx
    clear hx
    go_enter Try.func43, Try.ntmps43
    go_wp2
    go_loop [4, 5] (fun k t => ∃ (kk tt : Nat), k = .int .i64 kk ∧ t = .int .u64 tt ∧ tt < 4294967296 ∧ kk ≤ 32 ∧ Hid (kk + blen tt = blen x)) (fun k t => (intOf t).toNat)
    case atStart => exact ⟨0, x, rfl, rfl, hx', by omega, Lib.hid (Nat.zero_add _)⟩
    case round =>
      obtain ⟨kk, tt, rfl, rfl, ht, hk, hT⟩ := hrel
      rcases Nat.eq_zero_or_pos tt with ht0 | ht0
      · subst ht0
        have E : Hid (kk = blen x) := by have := hT.out; rw [blen_zero] at this; exact this
        go_wp2
        go_ret
        exact ⟨by rw [HB.out, ← E.out]; rfl, rfl⟩
      · have hh := blen_half ht0
        have hk2 : kk + 1 ≤ 32 := by have := hT.out; omega
        have HH : Hid (kk + 1 + blen (tt / 2) = blen x) := by have := hT.out; exact (by omega : kk + 1 + blen (tt / 2) = blen x)
        clear hh
        go_wp2
        go_round
        case rel => exact ⟨kk + 1, tt / 2, by go_num, by go_num, by omega, hk2, HH⟩
        case measure => simp [intOf]; omega

set_option maxHeartbeats 800000 in
theorem ref1_bytes {w : World} {L B v : Nat} {V : Value} (n : Nat) (h : Big w L B (2 ^ 32) v V) (hB : B ≤ w.heap.size) (hn : n ≤ 65536) (hv : blen v ≤ 8 * n) :
    Calls Try.prog 42 #[V, .int .i64 (n : Int)] w (Rets2 fun V' u w' => u = .bool true ∧ V' = .slice (some ⟨w.heap.size, 0, none⟩) n n ∧ w'.ownsRow w.heap.size 5 1 V' n (nums .u8 (bebytes n v)) ∧ Below w.heap.size w w') := by
  have H := Lib.hid h
  obtain ⟨xs, A, c, rfl, h1, h2, h3, h4, h5, h6⟩ := h
  have H4 := Lib.hid h4
  have H5 := Lib.hid h5
  have H6 := Lib.hid h6
  clear h4 h5 h6
  have d1 : decide ((n : Int) < 0) = false := decide_eq_false (by omega)
  have d2 : decide (65536 < (n : Int)) = false := decide_eq_false (by omega)
  have d3 : decide (8 * (n : Int) < (blen v : Int)) = false := decide_eq_false (by omega)
  have hmk := mk_num (P := Try.prog) 22 5 .u8 1 Try.underlying22 info_u8 (by omega) n (by omega)
  go_enter Try.func42, Try.ntmps42
  go_wp2_with (go_at_call 43; refine (ref1_bits H.out).mono ?_; rintro e w' ⟨rfl, rfl⟩)
  go_loopw [7] (fun j wr => ∃ q : Nat, q ≤ n ∧ j = .int .i64 q ∧ wr.ownsRow w.heap.size 5 1 (.slice (some ⟨w.heap.size, 0, none⟩) n n) n (nums .u8 (fillR (fun i => v / 256 ^ (n - 1 - i) % 256) n q)) ∧ Below w.heap.size w wr) (fun j _ => n - (intOf j).toNat)
  case atStart => exact ⟨0, Nat.zero_le _, rfl, by rw [fillR_zero]; exact own_made w w.heap.size 5 .u8 n (Nat.le_refl _) (by simp only [maxLen]; omega), (Below.refl _ _).alloc (Nat.le_refl _) _⟩
  case round =>
    obtain ⟨q, hq, rfl, hown, hbel⟩ := hrel
    have HO := Lib.hid hown
    have HBl := Lib.hid hbel
    clear hown hbel hmk
    rcases Nat.lt_or_ge q n with hqn | hqn
    · obtain ⟨hcl, hfz⟩ := own_at HO.out (n - 1 - q) (by omega)
      generalize (fillR (fun i => v / 256 ^ (n - 1 - i) % 256) n q).getD (n - 1 - q) 0 = z at hcl
      have e1 : decide ((q : Int) < (n : Int)) = true := decide_eq_true (by omega)
      by_cases hb : q / 4 < xs.length
      · obtain ⟨b, off, rfl, hb1, hb2, hcell⟩ := H6.out.num hb
        have hc := (HBl.out.cell (p := ⟨b, off + q / 4, none⟩) (by simp only; omega)).trans (hcell _ hb)
        have HF : Hid (xs.getD (q / 4) 0 / 2 ^ (8 * (q % 4)) % 256 = (fun i => v / 256 ^ (n - 1 - i) % 256) (n - 1 - q)) := by
          have := byte_of_digit H4.out.1 q
          rw [H5.out] at this
          simp only
          rw [show n - 1 - (n - 1 - q) = q from by omega]
          exact this
        have hx := H4.out.1.get (by omega) (q / 4)
        clear hcell
        generalize xs.getD (q / 4) 0 = x at hc HF hx
        have HX := Lib.hid hx
        clear hx
        have hb' : decide ((q : Int) / 4 < (xs.length : Int)) = true := decide_eq_true (by omega)
        go_wp2
        go_roundw
        case rel =>
          have e : (x : Int) / 2 ^ (8 * (q % 4)) % 256 = ((x / 2 ^ (8 * (q % 4)) % 256 : Nat) : Int) := cast_div_mod x _ 256
          rw [e]
          obtain ⟨hs, hg⟩ := own_set HO.out (n - 1 - q) (x / 2 ^ (8 * (q % 4)) % 256)
          refine ⟨q + 1, hqn, by go_num, ?_, HBl.out.setCell (p := ⟨w.heap.size, n - 1 - q, none⟩) (Nat.le_refl _) _⟩
          rwa [fillR_set _ n q _ hqn HF.out] at hs
        case measure => simp [intOf]; omega
      · have hb' : decide ((q : Int) / 4 < (xs.length : Int)) = false := decide_eq_false (by omega)
        go_wp2
        go_ret2
        have h0 := HO.out
        rw [fillR_done _ _ _ (fun i hi hni => ?_)] at h0
        · exact Rets2.mk ⟨rfl, rfl, h0, HBl.out⟩
        · have := byte_beyond4 H4.out.1 (n - 1 - i) (by omega)
          rw [H5.out] at this
          exact this
    · obtain rfl : q = n := by omega
      have e1 : decide ((q : Int) < (q : Int)) = false := decide_eq_false (by omega)
      go_wp2
      go_ret2
      have h0 := HO.out
      rw [fillR_done _ _ _ (fun i hi hni => by omega)] at h0
      exact Rets2.mk ⟨rfl, rfl, h0, HBl.out⟩

set_option maxHeartbeats 800000 in
theorem ref1_frombytes {w : World} {L B c : Nat} {A : Option Addr} {l : List Nat} (h : Rd w L B A (nums .u8 l)) (hd : Dig 256 l) (hc : l.length ≤ c) (hl : l.length ≤ 1048576) (hB : B ≤ w.heap.size) :
    Calls Try.prog 40 #[.slice A l.length c] w (Rets fun V' w' => Big w' w.heap.size w'.heap.size (2 ^ 32) (beval l) V' ∧ Below w.heap.size w w') := by
  have H := Lib.hid h
  have HD := Lib.hid hd
  clear h hd
  obtain ⟨m, hm⟩ : ∃ m, m = (l.length + 3) / 4 := ⟨_, rfl⟩
  have hmk := mk_num (P := Try.prog) 41 57 .u64 8 Try.underlying41 info_u64 (by omega) m (by omega)
  rw [show (m : Int) = ((l.length : Int) + 3) / 4 from by omega] at hmk
  have HM := Lib.hid hm
  clear hm
  go_enter Try.func40, Try.ntmps40
  go_wp2
  go_loopw [4, 5] (fun j k wr => ∃ (q : Nat) (ys : List Nat), q ≤ l.length ∧ j = .int .i64 q ∧ wr.ownsRow w.heap.size 57 1 (.slice (some ⟨w.heap.size, 0, none⟩) m m) m (nums .u64 ys) ∧
      Hid (ys.length = m ∧ Dig (2 ^ 32) ys ∧ val (2 ^ 32) ys = beval (l.take q) * 256 ^ (l.length - q)) ∧ Below w.heap.size w wr) (fun j k _ => l.length - (intOf j).toNat)
  case atStart =>
    have hm : m ≤ 1048576 := by have := HM.out; omega
    exact ⟨0, List.replicate m 0, Nat.zero_le _, rfl, own_made w w.heap.size 57 .u64 m (Nat.le_refl _) (by simp only [maxLen]; omega), Lib.hid ⟨by simp, Dig.rep (by omega), by simp [val_rep, beval]⟩, (Below.refl _ _).alloc (Nat.le_refl _) _⟩
  case round =>
    obtain ⟨q, ys, hq, rfl, hown, HY, hbel⟩ := hrel
    have HO := Lib.hid hown
    have HBl := Lib.hid hbel
    clear hown hbel hmk
    rcases Nat.lt_or_ge q l.length with hqn | hqn
    · have hkm : (l.length - 1 - q) / 4 < m := by have := HM.out; omega
      obtain ⟨hcl, hfz⟩ := own_at HO.out ((l.length - 1 - q) / 4) hkm
      obtain ⟨b, off, rfl, hb1, hb2, hcell⟩ := H.out.num hqn
      have hc' := (HBl.out.cell (p := ⟨b, off + q, none⟩) (by simp only; omega)).trans (hcell _ hqn)
      have hx := HD.out.get (by omega) q
      clear hcell
      generalize hxx : l.getD q 0 = x at hc' hx
      generalize hyy : ys.getD ((l.length - 1 - q) / 4) 0 = y at hcl
      have HXX := Lib.hid hxx
      have HYY := Lib.hid hyy
      clear hxx hyy
      go_wp2
      go_region
      go_wp2
      go_roundw
      case rel =>
        obtain ⟨hyl, hyd, hyv⟩ := HY.out
        have hS : val (2 ^ 32) ys = beval (l.take q) * 256 ^ ((l.length - 1 - q) + 1) := by rw [hyv]; congr 2; omega
        have e2 := digit_add (k := l.length - 1 - q) hyd hx hS
        have e3 := digit_add_val (c := x) (k := l.length - 1 - q) (by omega) hS
        rw [HYY.out] at e2 e3
        have hz64 : x * 2 ^ (8 * ((l.length - 1 - q) % 4)) < 2 ^ 64 := by omega
        have hy64 : y + x * 2 ^ (8 * ((l.length - 1 - q) % 4)) < 2 ^ 64 := by omega
        obtain ⟨hs, hg⟩ := own_set HO.out ((l.length - 1 - q) / 4) (y + x * 2 ^ (8 * ((l.length - 1 - q) % 4)))
        rw [cast_mul_pow, u64_wrap _ hz64, ← Int.natCast_add, u64_wrap _ hy64]
        refine ⟨q + 1, _, hqn, by go_num, hs.drew, Lib.hid ⟨by rw [List.length_set, hyl], hyd.set _ _ e2, ?_⟩, (HBl.out.setCell (p := ⟨w.heap.size, (l.length - 1 - q) / 4, none⟩) (Nat.le_refl _) _).drew⟩
        rw [e3, beval_take_succ l q hqn, HXX.out]
        congr 2
        omega
      case measure => simp [intOf]; omega
    · obtain rfl : q = l.length := by omega
      obtain ⟨hyl, hyd, hyv⟩ := HY.out
      rw [List.take_length, Nat.sub_self, Nat.pow_zero, Nat.mul_one] at hyv
      have hm := HM.out
      have hN : Hid (Num wr w.heap.size wr.heap.size (2 ^ 32) (beval l) (.slice (some ⟨w.heap.size, 0, none⟩) m m)) := by
        have := num_of_own HO.out (by omega) hyd
        rwa [hyv] at this
      clear hyl hyd hyv hm
      go_wp2_with (go_at_call 36; refine (ref1_trim_num hN.out).mono ?_; rintro e w' ⟨V', rfl, hV, rfl⟩)
      go_ret
      exact Rets.mk ⟨hV, HBl.out⟩

/-! ### Is: only where it is so -/
set_option maxHeartbeats 800000 in
theorem ref1_is {w : World} {L B L' B' v : Nat} {V U : Value} (h : Big w L B (2 ^ 64) v V) (hB : B ≤ w.heap.size) (h' : Big w L' B' (2 ^ 32) v U) (hB' : B' ≤ w.heap.size) :
    Calls Try.prog 27 #[V, U] w (Rets fun r w' => r = .bool true ∧ Below w.heap.size w w') := by
  obtain ⟨xs, A, c, rfl, h1, h2, h3, h4, h5, h6⟩ := h
  have H' := Lib.hid h'
  have H4 := Lib.hid h4
  have H5 := Lib.hid h5
  have H6 := Lib.hid h6
  clear h4 h5 h6 h'
  go_enter Try.func27, Try.ntmps27
  go_wp2_with fail
  refine (ref1_to H'.out hB').mono ?_
  rintro e w1 ⟨T, rfl, hT, hb1⟩
  obtain ⟨ys, A', c', rfl, k1, k2, k3, k4, k5, k6⟩ := hT
  have hxy : xs = ys := canon_inj (by omega) H4.out k4 (by rw [H5.out, k5])
  subst hxy
  have K6 := Lib.hid k6
  have HBl := Lib.hid hb1
  clear k4 k5 k6 hb1
  have n0 : ((xs.length : Int) != (xs.length : Int)) = false := by simp
  go_wp2
  go_loopw [6] (fun j wr => ∃ q : Nat, q ≤ xs.length ∧ j = .int .i64 q ∧ Hid (Below w1.heap.size w1 wr)) (fun j _ => xs.length - (intOf j).toNat)
  case atStart => exact ⟨0, Nat.zero_le _, rfl, Lib.hid (Below.refl _ _)⟩
  case round =>
    obtain ⟨q, hq, rfl, hb⟩ := hrel
    rcases Nat.lt_or_ge q xs.length with hqn | hqn
    · obtain ⟨b, off, rfl, hb1, hb2, hcell⟩ := H6.out.num hqn
      obtain ⟨b', off', rfl, hb1', hb2', hcell'⟩ := K6.out.num hqn
      have hc1 := (hb.out.cell (p := ⟨b, off + q, none⟩) (by have := HBl.out.size; simp only; omega)).trans ((HBl.out.cell (p := ⟨b, off + q, none⟩) (by simp only; omega)).trans (hcell _ hqn))
      have hc2 := (hb.out.cell (p := ⟨b', off' + q, none⟩) (by simp only; omega)).trans (hcell' _ hqn)
      clear hcell hcell'
      generalize xs.getD q 0 = x at hc1 hc2
      have n1 : ((x : Int) != (x : Int)) = false := by simp
      go_wp2
      go_region
      go_wp2
      go_roundw
      case rel => exact ⟨q + 1, hqn, by go_num, Lib.hid hb.out.drew⟩
      case measure => simp [intOf]; omega
    · obtain rfl : q = xs.length := by omega
      go_wp2
      go_ret
      exact Rets.mk ⟨rfl, below_then HBl.out HBl.out.size hb.out⟩
end Go.Proofs.Ytanelmmklnpohaa
