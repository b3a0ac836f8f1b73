/-
  Walks of the package baileyref1: what each of its functions makes of the numbers that its arguments are. Digits of 32 bits.
  Conditions: lengths below 2^20.
-/
import Derived.Test.YtanelmmklnpohaaLimb
import Derived.Test.YtanelmmklnpohaaNum2
namespace Go.Proofs.Ytanelmmklnpohaa
open Go.RowKit
set_option linter.unusedVariables false
set_option linter.unusedSimpArgs false

/-! ### trim -/
set_option maxHeartbeats 400000 in
theorem ref1_trim (xs : List Nat) (A : Option Addr) (c L B : Nat) (w : World) (hl : xs.length ≤ 1048576) (hc : xs.length ≤ c) (h : Rd w L B A (nums .u64 xs)) :
    Calls Try.prog 36 #[.slice A xs.length c] w fun e w' => e = .returned (.slice A (tlen xs xs.length) (tlen xs xs.length)) ∧ w = w' := by
  have H := Lib.hid h
  clear h
  go_enter Try.func36, Try.ntmps36
  go_wp2
  go_loop [3] (fun n => ∃ k : Nat, k ≤ xs.length ∧ n = .int .i64 k ∧ Hid (tlen xs k = tlen xs xs.length)) (fun n => (intOf n).toNat)
  case atStart => exact ⟨xs.length, Nat.le_refl _, rfl, Lib.hid rfl⟩
  case round =>
    obtain ⟨k, hk, rfl, hT⟩ := hrel
    rcases Nat.eq_zero_or_pos k with h0 | h0
    · subst h0
      go_wp2
      go_ret
      exact ⟨by rw [← hT.out]; simp [tlen], rfl⟩
    · obtain ⟨m, rfl⟩ : ∃ m, k = m + 1 := ⟨k - 1, by omega⟩
      obtain ⟨b, off, rfl, _, _, hcell⟩ := H.out.num (i := m) (by omega)
      have hcl := hcell m (by omega)
      have E : Hid (tlen xs (m + 1) = if xs.getD m 0 = 0 then tlen xs m else m + 1) := Lib.hid rfl
      clear hcell
      generalize xs.getD m 0 = x at hcl E
      by_cases hz : x = 0
      · subst hz
        go_wp2
        go_round
        case rel => exact ⟨m, by omega, by go_num, by rw [← hT.out, E.out, if_pos rfl]; exact Lib.hid rfl⟩
        case measure => simp [intOf]
      · have hzb : ((x : Int) == 0) = false := by rw [beq_eq_false_iff_ne]; omega
        have Z := Lib.hid hz
        clear hz
        go_wp2
        go_ret
        exact ⟨by rw [← hT.out, E.out, if_neg Z.out]; rfl, rfl⟩
theorem ref1_trim_num {w : World} {L B b v : Nat} {V : Value} (h : Num w L B b v V) :
    Calls Try.prog 36 #[V] w (Rets fun V' w' => Big w L B b v V' ∧ w = w') := by
  obtain ⟨xs, A, c, rfl, h1, h2, h3, h4, rfl, h6⟩ := h
  refine (ref1_trim xs A c L B w h3 h1 h6).mono ?_
  rintro e w' ⟨rfl, rfl⟩
  refine Rets.mk ⟨⟨xs.take (tlen xs xs.length), A, tlen xs xs.length, by rw [tlen_len], by rw [tlen_len]; exact Nat.le_refl _, by have := tlen_le xs xs.length; simp only [maxLen]; omega, by rw [tlen_len]; exact Nat.le_trans (tlen_le _ _) h3, canon_tlen h4, val_trim _ _, ?_⟩, rfl⟩
  rw [nums_take]
  exact h6.take _

/-! ### From -/
set_option maxHeartbeats 800000 in
theorem ref1_from {w : World} {L B v : Nat} {V : Value} (h : Num w L B (2 ^ 64) v V) (hB : B ≤ w.heap.size) (hsm : ∀ xs A c, V = .slice A xs c → xs ≤ 500000) :
    Calls Try.prog 18 #[V] w (Rets fun V' w' => Big w' w.heap.size w'.heap.size (2 ^ 32) v V' ∧ Below w.heap.size w w') := by
  obtain ⟨xs, A, c, rfl, h1, h2, h3, h4, h5, h6⟩ := h
  have hs := hsm _ _ _ rfl
  have H4 := Lib.hid h4
  have H5 := Lib.hid h5
  have H6 := Lib.hid h6
  clear h4 h5 h6 hsm
  have hmk := mk_num (P := Try.prog) 41 57 .u64 8 Try.underlying41 info_u64 (by omega) (2 * xs.length) (by omega)
  rw [show ((2 * xs.length : Nat) : Int) = 2 * (xs.length : Int) from by omega] at hmk
  go_enter Try.func18, Try.ntmps18
  go_wp2
  go_loopw [4] (fun j wr => ∃ q : Nat, q ≤ xs.length ∧ j = .int .i64 q ∧ wr.ownsRow w.heap.size 57 1 (.slice (some ⟨w.heap.size, 0, none⟩) (2 * xs.length) (2 * xs.length)) (2 * xs.length) (nums .u64 (fillTo (halves xs) (2 * xs.length) (2 * q))) ∧ Below w.heap.size w wr) (fun j _ => xs.length - (intOf j).toNat)
  case atStart => exact ⟨0, Nat.zero_le _, rfl, by rw [Nat.mul_zero, fillTo_zero]; exact own_made w w.heap.size 57 .u64 _ (Nat.le_refl _) (by simp only [maxLen]; omega), (Below.refl _ _).alloc (Nat.le_refl _) _⟩
  case round =>
    obtain ⟨q, hq, rfl, hown, hbel⟩ := hrel
    have HO := Lib.hid hown
    have HBl := Lib.hid hbel
    clear hown hbel hmk
    rcases Nat.lt_or_ge q xs.length with hqn | hqn
    · obtain ⟨b, off, rfl, hb1, hb2, hcell⟩ := H6.out.num hqn
      have hc := (HBl.out.cell (p := ⟨b, off + q, none⟩) (by simp only; omega)).trans (hcell _ hqn)
      have e1 := halves_even xs q
      have e2 := halves_odd xs q
      have HX := Lib.hid (H4.out.get (by omega) q)
      clear hcell
      generalize xs.getD q 0 = x at hc e1 e2 HX
      have HE1 := Lib.hid e1
      have HE2 := Lib.hid e2
      clear e1 e2
      obtain ⟨hcl, hfz⟩ := own_at HO.out (2 * q) (by omega)
      obtain ⟨hcl1, hfz1⟩ := own_at HO.out (2 * q + 1) (by omega)
      generalize (fillTo (halves xs) (2 * xs.length) (2 * q)).getD (2 * q) 0 = z at hcl
      generalize (fillTo (halves xs) (2 * xs.length) (2 * q)).getD (2 * q + 1) 0 = z1 at hcl1
      go_wp2
      go_roundw
      case rel =>
        obtain ⟨hs1, hg1⟩ := own_set HO.out (2 * q) (x % 4294967296)
        rw [fillTo_set _ _ _ _ HE1.out] at hs1
        obtain ⟨hs2, hg2⟩ := own_set hs1 (2 * q + 1) (x / 4294967296)
        rw [fillTo_set _ _ _ _ HE2.out] at hs2
        rw [show (x : Int) % 4294967296 = ((x % 4294967296 : Nat) : Int) from by omega, show IntKind.u64.wrap ((x : Int) / 4294967296) = ((x / 4294967296 : Nat) : Int) from by have := HX.out; rw [IntKind.wrap_u64]; omega]
        exact ⟨q + 1, hqn, by go_num, hs2, (HBl.out.setCell (p := ⟨w.heap.size, 2 * q, none⟩) (Nat.le_refl _) _).setCell (p := ⟨w.heap.size, 2 * q + 1, none⟩) (Nat.le_refl _) _⟩
      case measure => simp [intOf]; omega
    · obtain rfl : q = xs.length := by omega
      have hN : Hid (Num wr w.heap.size wr.heap.size (2 ^ 32) v (.slice (some ⟨w.heap.size, 0, none⟩) (2 * xs.length) (2 * xs.length))) := by
        have h0 := HO.out
        rw [fillTo_full] at h0
        have := num_of_own h0 (by simp; omega) (halves_dig H4.out _)
        rwa [halves_val _ _ (Nat.le_refl _), List.take_length, H5.out] at this
      go_wp2_with (go_at_call 36; refine (ref1_trim_num hN.out).mono ?_; rintro e w' ⟨V', rfl, hV, rfl⟩)
      go_ret
      exact Rets.mk ⟨hV, HBl.out⟩

/-! ### To -/
set_option maxHeartbeats 800000 in
theorem ref1_to {w : World} {L B v : Nat} {V : Value} (h : Big w L B (2 ^ 32) v V) (hB : B ≤ w.heap.size) :
    Calls Try.prog 44 #[V] w (Rets fun V' w' => Big w' w.heap.size w'.heap.size (2 ^ 64) v V' ∧ Below w.heap.size w w') := by
  obtain ⟨ds, A, c, rfl, h1, h2, h3, h4, h5, h6⟩ := h
  have H4 := Lib.hid h4
  have H5 := Lib.hid h5
  have H6 := Lib.hid h6
  clear h4 h5 h6
  go_enter Try.func44, Try.ntmps44
  go_wp2
  go_loopw [3, 4, 5] (fun o j u wr => ∃ q : Nat, q ≤ (ds.length + 1) / 2 ∧ j = .int .i64 ((2 * q : Nat) : Int) ∧ wr.ownsRow w.heap.size 57 1 o q (nums .u64 ((joined ds).take q)) ∧ Below w.heap.size w wr) (fun o j _ _ => ds.length + 1 - (intOf j).toNat)
  case atStart => exact ⟨0, Nat.zero_le _, rfl, World.ownsRow_nil _ _ _ _, Below.refl _ _⟩
  case round =>
    obtain ⟨q, hq, rfl, hown, hbel⟩ := hrel
    have HO := Lib.hid hown
    have HBl := Lib.hid hbel
    clear hown hbel
    have hJl := joined_length ds
    rcases Nat.lt_or_ge (2 * q) ds.length with hqn | hqn
    · obtain ⟨b, off, rfl, hb1, hb2, hcell⟩ := H6.out.num hqn
      have hc := (HBl.out.cell (p := ⟨b, off + 2 * q, none⟩) (by simp only; omega)).trans (hcell _ hqn)
      have hx := H4.out.1.get (by omega) (2 * q)
      have hj := joined_get ds q
      by_cases hq2 : 2 * q + 1 < ds.length
      · have hc1 := (HBl.out.cell (p := ⟨b, off + (2 * q + 1), none⟩) (by simp only; omega)).trans (hcell _ hq2)
        have hx1 := H4.out.1.get (by omega) (2 * q + 1)
        clear hcell
        generalize ds.getD (2 * q) 0 = x at hc hx hj
        generalize ds.getD (2 * q + 1) 0 = x1 at hc1 hx1 hj
        have HJ := Lib.hid hj
        have hx' : x < 4294967296 := hx
        have hx1' : x1 < 4294967296 := hx1
        clear hj hx hx1
        go_wp2_with (at_builtin
                     refine wpList_append_lit (w0 := w) rfl (.tmp 29) (.tmp 31) _ rfl w.heap.size 57 (.int .u64 0) 8 Try.underlying38 info_u64 rfl u3 q (nums .u64 ((joined ds).take q)) _ rfl HO.out
                       _ rfl rfl rfl (by simp only [maxLen]; omega) (by omega) HBl.out.size HBl.out ?_
                     intro v1 w1 hown1 hbel1 hg1 hat1)
        go_roundw
        case rel =>
          refine ⟨q + 1, by omega, by go_num, ?_, hbel1⟩
          rw [take_snoc _ _ (by omega), nums_append, HJ.out]
          have : nums .u64 [x + x1 * 2 ^ 32] = [.int .u64 ((x : Int) + (x1 : Int) * 4294967296)] := by
            simp only [nums, List.map_cons, List.map_nil, List.cons.injEq, and_true, Value.int.injEq, true_and]
            omega
          rw [this]
          exact hown1
        case measure => simp [intOf]; omega
      · clear hcell
        have hz : ds.getD (2 * q + 1) 0 = 0 := by rw [List.getD_eq_getElem?_getD, List.getElem?_eq_none (by omega)]; rfl
        rw [hz, Nat.zero_mul, Nat.add_zero] at hj
        clear hz
        generalize ds.getD (2 * q) 0 = x at hc hx hj
        have HJ := Lib.hid hj
        have hx' : x < 4294967296 := hx
        clear hj hx
        go_wp2_with (at_builtin
                     refine wpList_append_lit (w0 := w) rfl (.tmp 29) (.tmp 31) _ rfl w.heap.size 57 (.int .u64 0) 8 Try.underlying38 info_u64 rfl u3 q (nums .u64 ((joined ds).take q)) _ rfl HO.out
                       _ rfl rfl rfl (by simp only [maxLen]; omega) (by omega) HBl.out.size HBl.out ?_
                     intro v1 w1 hown1 hbel1 hg1 hat1)
        go_roundw
        case rel =>
          refine ⟨q + 1, by omega, by go_num, ?_, hbel1⟩
          rw [take_snoc _ _ (by omega), nums_append, HJ.out]
          exact hown1
        case measure => simp [intOf]; omega
    · obtain rfl : q = (ds.length + 1) / 2 := by omega
      go_wp2
      go_ret
      have h0 := HO.out
      rw [← hJl, List.take_length] at h0
      have := big_of_own h0 (by omega) (joined_canon H4.out)
      rw [joined_val, H5.out] at this
      exact Rets.mk ⟨this, HBl.out⟩
end Go.Proofs.Ytanelmmklnpohaa
