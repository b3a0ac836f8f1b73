/-
  Walks of the packages limb and baileyref1: what each of their functions makes of the numbers that its arguments are.
  Conditions: lengths below 2^20.
-/
import Derived.Test.YtanelmmklnpohaaBase
import Derived.Test.YtanelmmklnpohaaNum
import Derived.Test.YtanelmmklnpohaaShelf
namespace Go.Proofs.Ytanelmmklnpohaa
open Go.RowKit
set_option linter.unusedVariables false
set_option linter.unusedSimpArgs false

def Num (w : World) (L B b v : Nat) (V : Value) : Prop :=
  ∃ (xs : List Nat) (A : Option Addr) (c : Nat), V = .slice A xs.length c ∧ xs.length ≤ c ∧ c ≤ maxLen ∧ xs.length ≤ 1048576 ∧ Dig b xs ∧ val b xs = v ∧ Rd w L B A (nums .u64 xs)
def Big (w : World) (L B b v : Nat) (V : Value) : Prop :=
  ∃ (xs : List Nat) (A : Option Addr) (c : Nat), V = .slice A xs.length c ∧ xs.length ≤ c ∧ c ≤ maxLen ∧ xs.length ≤ 1048576 ∧ Canon b xs ∧ val b xs = v ∧ Rd w L B A (nums .u64 xs)
theorem Big.num {w : World} {L B b v : Nat} {V : Value} (h : Big w L B b v V) : Num w L B b v V := by
  obtain ⟨xs, A, c, e, h1, h2, h3, h4, h5, h6⟩ := h
  exact ⟨xs, A, c, e, h1, h2, h3, h4.1, h5, h6⟩
theorem Num.below {w w' : World} {L B B' b v : Nat} {V : Value} (h : Num w L B b v V) (hb : Below B' w w') (hB : B ≤ B') : Num w' L B b v V := by
  obtain ⟨xs, A, c, e, h1, h2, h3, h4, h5, h6⟩ := h
  exact ⟨xs, A, c, e, h1, h2, h3, h4, h5, h6.below hb hB⟩
theorem Big.below {w w' : World} {L B B' b v : Nat} {V : Value} (h : Big w L B b v V) (hb : Below B' w w') (hB : B ≤ B') : Big w' L B b v V := by
  obtain ⟨xs, A, c, e, h1, h2, h3, h4, h5, h6⟩ := h
  exact ⟨xs, A, c, e, h1, h2, h3, h4, h5, h6.below hb hB⟩
theorem Num.wide {w : World} {L B L' B' b v : Nat} {V : Value} (h : Num w L B b v V) (hL : L' ≤ L) (hB : B ≤ B') : Num w L' B' b v V := by
  obtain ⟨xs, A, c, e, h1, h2, h3, h4, h5, h6⟩ := h
  exact ⟨xs, A, c, e, h1, h2, h3, h4, h5, h6.wide hL hB⟩
theorem Big.wide {w : World} {L B L' B' b v : Nat} {V : Value} (h : Big w L B b v V) (hL : L' ≤ L) (hB : B ≤ B') : Big w L' B' b v V := by
  obtain ⟨xs, A, c, e, h1, h2, h3, h4, h5, h6⟩ := h
  exact ⟨xs, A, c, e, h1, h2, h3, h4, h5, h6.wide hL hB⟩

/-! ### trim -/
set_option maxHeartbeats 400000 in
theorem limb_trim (xs : List Nat) (A : Option Addr) (c L B : Nat) (w : World) (hl : xs.length ≤ 1048576) (hc : xs.length ≤ c) (h : Rd w L B A (nums .u64 xs)) :
    Calls Try.prog 52 #[.slice A xs.length c] w fun e w' => e = .returned (.slice A (tlen xs xs.length) c) ∧ w = w' := by
  have H := Lib.hid h
  clear h
  go_enter Try.func52, Try.ntmps52
  go_wp2
  go_loop [3] (fun n => ∃ k : Nat, k ≤ xs.length ∧ n = .int .i64 k ∧ Hid (tlen xs k = tlen xs xs.length)) (fun n => (intOf n).toNat)
  case atStart => exact ⟨xs.length, Nat.le_refl _, rfl, Lib.hid rfl⟩
  case round =>
    obtain ⟨k, hk, rfl, hT⟩ := hrel
    rcases Nat.eq_zero_or_pos k with h0 | h0
    · subst h0
      go_wp2
      go_ret
      exact ⟨by rw [← hT.out]; simp [tlen], rfl⟩
    · obtain ⟨m, rfl⟩ : ∃ m, k = m + 1 := ⟨k - 1, by omega⟩
      obtain ⟨b, off, rfl, _, _, hcell⟩ := H.out.num (i := m) (by omega)
      have hcl := hcell m (by omega)
      have E : Hid (tlen xs (m + 1) = if xs.getD m 0 = 0 then tlen xs m else m + 1) := Lib.hid rfl
      clear hcell
      generalize xs.getD m 0 = x at hcl E
      by_cases hz : x = 0
      · subst hz
        go_wp2
        go_round
        case rel => exact ⟨m, by omega, by go_num, by rw [← hT.out, E.out, if_pos rfl]; exact Lib.hid rfl⟩
        case measure => simp [intOf]
      · have hzb : ((x : Int) == 0) = false := by rw [beq_eq_false_iff_ne]; omega
        have Z := Lib.hid hz
        clear hz
        go_wp2
        go_ret
        exact ⟨by rw [← hT.out, E.out, if_neg Z.out]; rfl, rfl⟩


theorem u64_wrap (a : Nat) (h : a < 2 ^ 64) : IntKind.u64.wrap (a : Int) = (a : Int) := by
  rw [IntKind.wrap_u64]; omega
theorem ofInt_u64 (a : Nat) (ha : a < 2 ^ 64) : (BitVec.ofInt 64 (a : Int)).toNat = a := by
  rw [BitVec.ofInt_natCast, BitVec.toNat_ofNat]; exact Nat.mod_eq_of_lt ha
theorem u64_or (a b : Nat) (ha : a < 2 ^ 64) (hb : b < 2 ^ 64) : bits .or .u64 (a : Int) (b : Int) = ((a ||| b : Nat) : Int) := by
  have hx : a ||| b < 2 ^ 64 := Nat.or_lt_two_pow ha hb
  show IntKind.u64.wrap ((BitVec.ofInt 64 (a : Int) ||| BitVec.ofInt 64 (b : Int)).toNat : Int) = _
  rw [BitVec.toNat_or, ofInt_u64 a ha, ofInt_u64 b hb, u64_wrap _ hx]
theorem cast_mul_pow (x s : Nat) : (x : Int) * 2 ^ s = ((x * 2 ^ s : Nat) : Int) := by rw [Int.natCast_mul, Int.natCast_pow]; rfl
theorem cast_div_mod (x s m : Nat) : (x : Int) / 2 ^ s % (m : Int) = ((x / 2 ^ s % m : Nat) : Int) := by rw [Int.natCast_emod, Int.natCast_ediv, Int.natCast_pow]; rfl
theorem info_u64 : (Try.prog.info? 57).map (fun i => (i.zero, i.size, i.bytes)) = some (some (.int .u64 0), 1, 8) := by kernel_rfl
theorem info_u8 : (Try.prog.info? 5).map (fun i => (i.zero, i.size, i.bytes)) = some (some (.int .u8 0), 1, 1) := by kernel_rfl

theorem tlen_len (xs : List Nat) : (xs.take (tlen xs xs.length)).length = tlen xs xs.length := by
  rw [List.length_take]; exact Nat.min_eq_left (tlen_le _ _)

/-- What a row of the call's own that holds limbs is. -/
theorem big_of_own {w : World} {base e b n : Nat} {V : Value} {xs : List Nat} (h : w.ownsRow base e 1 V n (nums .u64 xs)) (hl : xs.length ≤ 1048576) (hd : Canon b xs) : Big w base w.heap.size b (val b xs) V := by
  have hn : xs.length = n := by have := h.1; rw [nums_length] at this; omega
  subst hn
  obtain ⟨A, c, rfl, h1, h2⟩ := own_form h
  exact ⟨xs, A, c, rfl, h1, h2, hl, hd, rfl, own_rd h⟩
theorem num_of_own {w : World} {base e b n : Nat} {V : Value} {xs : List Nat} (h : w.ownsRow base e 1 V n (nums .u64 xs)) (hl : xs.length ≤ 1048576) (hd : Dig b xs) : Num w base w.heap.size b (val b xs) V := by
  have hn : xs.length = n := by have := h.1; rw [nums_length] at this; omega
  subst hn
  obtain ⟨A, c, rfl, h1, h2⟩ := own_form h
  exact ⟨xs, A, c, rfl, h1, h2, hl, hd, rfl, own_rd h⟩

theorem limb_trim_num {w : World} {L B b v : Nat} {V : Value} (h : Num w L B b v V) :
    Calls Try.prog 52 #[V] w (Rets fun V' w' => Big w L B b v V' ∧ w = w') := by
  obtain ⟨xs, A, c, rfl, h1, h2, h3, h4, rfl, h6⟩ := h
  refine (limb_trim xs A c L B w h3 h1 h6).mono ?_
  rintro e w' ⟨rfl, rfl⟩
  refine Rets.mk ⟨⟨xs.take (tlen xs xs.length), A, c, by rw [tlen_len], by rw [tlen_len]; exact Nat.le_trans (tlen_le _ _) h1, h2, by rw [tlen_len]; exact Nat.le_trans (tlen_le _ _) h3, canon_tlen h4, val_trim _ _, ?_⟩, rfl⟩
  rw [nums_take]
  exact h6.take _

set_option maxHeartbeats 400000 in
theorem limb_made {w : World} {L B b v : Nat} {V : Value} (h : Num w L B b v V) :
    Calls Try.prog 57 #[V] w (Rets fun V' w' => Big w' w.heap.size w'.heap.size b v V' ∧ Below w.heap.size w w') := by
  have H := Lib.hid h
  clear h
  go_enter Try.func57, Try.ntmps57
  go_wp2_with (first
    | (go_at_call 52; refine (limb_trim_num H.out).mono ?_; rintro e w' ⟨V', rfl, hV, rfl⟩; obtain ⟨ys, A, c, rfl, h1, h2, h3, h4, h5, h6⟩ := hV; have H5 := Lib.hid h5; clear h5)
    | (at_builtin
       refine wpList_append_rd _ rfl (.const (.slice none 0 0)) (.tmp 4) _ rfl w.heap.size 57 (.int .u64 0) 1 8 Try.underlying38 info_u64 rfl (by omega) (.slice none 0 0) 0 [] rfl (World.ownsRow_nil _ _ _ _)
         L B A ys.length c (nums .u64 ys) rfl (by rw [nums_length, Nat.mul_one]) h6 (nums_one _ _) (by simp only [maxLen]; omega) (by omega) (Nat.le_refl _) ?_
       intro v1 w1 hown hg hat hnil))
  go_ret
  rw [← H5.out]
  simp only [List.nil_append] at hown
  exact Rets.mk ⟨big_of_own hown h3 h4, (Below.refl _ _).grown hg (Nat.le_refl _) (by simp [Value.ownBlock])⟩


set_option maxHeartbeats 400000 in
theorem limb_of (n : Nat) (w : World) (hn : n < 2 ^ 64) :
    Calls Try.prog 55 #[.int .u64 (n : Int)] w (Rets fun V' w' => Big w' w.heap.size w'.heap.size (2 ^ 64) n V' ∧ Below w.heap.size w w') := by
  have HN := Lib.hid hn
  clear hn
  go_enter Try.func55, Try.ntmps55
  go_wp2_with fail
  have hnum : Num (w.alloc (.cells #[.int .u64 (n : Int)] 57)) w.heap.size (w.heap.size + 1) (2 ^ 64) n (.slice (some ⟨w.heap.size, 0, none⟩) 1 1) := by
    refine ⟨[n], _, 1, rfl, Nat.le_refl _, by simp [maxLen], by simp, Dig.cons.2 ⟨HN.out, Dig.nil⟩, by simp [val], fun _ => ⟨w.heap.size, 0, rfl, Nat.le_refl _, by omega, fun j hj => ?_⟩⟩
    have : j = 0 := by simp [nums] at hj; omega
    subst this
    simp [nums]
  refine (limb_made hnum).mono ?_
  rintro e w1 ⟨V', rfl, hV, hb⟩
  go_wp2
  go_ret
  refine Rets.mk ⟨hV.wide (by simp) (Nat.le_refl _), ?_⟩
  exact below_then ((Below.refl _ _).alloc (Nat.le_refl _) _) (by simp) hb

theorem bits_len64 (x : Nat) (w : World) (h : x < 2 ^ 64) : Calls Try.prog 53 #[.int .u64 (x : Int)] w fun e w' => e = .returned (.int .i64 (blen x : Int)) ∧ w = w' := by
  refine (Try.bits_Len64 _ _ (by omega) (by omega)).mono ?_
  rintro e w' ⟨rfl, rfl⟩
  rw [Int.toNat_natCast, bitLen_blen h]
  exact ⟨rfl, rfl⟩

set_option maxHeartbeats 400000 in
theorem limb_bits {w : World} {L B v : Nat} {V : Value} (h : Num w L B (2 ^ 64) v V) :
    Calls Try.prog 38 #[V] w fun e w' => e = .returned (.int .i64 (blen v : Int)) ∧ w = w' := by
  have H := Lib.hid h
  clear h
  go_enter Try.func38, Try.ntmps38
  go_wp2_with fail
  refine (limb_trim_num H.out).mono ?_
  rintro e w' ⟨V', rfl, hV, rfl⟩
  obtain ⟨ys, A, c, rfl, h1, h2, h3, h4, h5, h6⟩ := hV
  have H5 := Lib.hid h5
  clear h5
  rcases Nat.eq_zero_or_pos ys.length with h0 | h0
  · have hys : ys = [] := List.eq_nil_of_length_eq_zero h0
    subst hys
    have hv : v = 0 := by rw [← H5.out]; rfl
    subst hv
    go_wp2
    go_ret
    exact ⟨rfl, rfl⟩
  · obtain ⟨m, hm⟩ : ∃ m, ys.length = m + 1 := ⟨ys.length - 1, by omega⟩
    have HB : Hid (blen v = 64 * m + blen (ys.getD m 0)) := by
      have := blen_val h4 h0
      rw [H5.out, hm, Nat.add_sub_cancel] at this
      exact this
    obtain ⟨b, off, rfl, _, _, hcell⟩ := h6.num (i := m) (by omega)
    have hc := hcell m (by omega)
    have hx := h4.1.get (by omega) m
    clear hcell h6
    rw [hm] at h1 h3 ⊢
    have h0' : ((m : Int) + 1 == 0) = false := by rw [beq_eq_false_iff_ne]; omega
    clear h4 hm h0
    generalize ys.getD m 0 = x at hc HB hx
    have hb : blen x ≤ 64 := blen_le.2 hx
    have HX := Lib.hid hx
    clear hx
    go_wp2_with (go_at_call 53; refine (bits_len64 _ _ HX.out).mono ?_; rintro e w' ⟨rfl, rfl⟩)
    go_ret
    exact ⟨by rw [HB.out]; rfl, rfl⟩
set_option maxHeartbeats 800000 in
theorem limb_bytes_no {w : World} {L B v : Nat} {V : Value} (n : Int) (h : Num w L B (2 ^ 64) v V) (hn : n < 0 ∨ 65536 < n ∨ 8 * n < blen v) :
    Calls Try.prog 37 #[V, .int .i64 n] w fun e w' => e = .returned (.tuple #[.slice none 0 0, .bool false]) ∧ w = w' := by
  have H := Lib.hid h
  clear h
  by_cases h1 : n < 0
  · have d1 : decide (n < 0) = true := decide_eq_true h1
    clear hn
    go_enter Try.func37, Try.ntmps37
    go_wp2
    go_ret2
    exact ⟨rfl, rfl⟩
  by_cases h2 : 65536 < n
  · have d1 : decide (n < 0) = false := decide_eq_false h1
    have d2 : decide (65536 < n) = true := decide_eq_true h2
    clear hn
    go_enter Try.func37, Try.ntmps37
    go_wp2
    go_ret2
    exact ⟨rfl, rfl⟩
  · have d1 : decide (n < 0) = false := decide_eq_false h1
    have d2 : decide (65536 < n) = false := decide_eq_false h2
    have d3 : decide (8 * n < (blen v : Int)) = true := decide_eq_true (by omega)
    have h3 : 8 * n < (blen v : Int) := by omega
    clear hn
    go_enter Try.func37, Try.ntmps37
    go_wp2_with (go_at_call 38; refine (limb_bits H.out).mono ?_; rintro e w' ⟨rfl, rfl⟩)
    go_ret2
    exact ⟨rfl, rfl⟩

set_option maxHeartbeats 800000 in
theorem limb_bytes {w : World} {L B v : Nat} {V : Value} (n : Nat) (h : Num w L B (2 ^ 64) v V) (hB : B ≤ w.heap.size) (hn : n ≤ 65536) (hv : blen v ≤ 8 * n) :
    Calls Try.prog 37 #[V, .int .i64 (n : Int)] w (Rets2 fun V' u w' => u = .bool true ∧ V' = .slice (some ⟨w.heap.size, 0, none⟩) n n ∧ w'.ownsRow w.heap.size 5 1 V' n (nums .u8 (bebytes n v)) ∧ Below w.heap.size w w') := by
  have H := Lib.hid h
  obtain ⟨xs, A, c, rfl, h1, h2, h3, h4, h5, h6⟩ := h
  have H4 := Lib.hid h4
  have H5 := Lib.hid h5
  have H6 := Lib.hid h6
  clear h4 h5 h6
  have d1 : decide ((n : Int) < 0) = false := decide_eq_false (by omega)
  have d2 : decide (65536 < (n : Int)) = false := decide_eq_false (by omega)
  have d3 : decide (8 * (n : Int) < (blen v : Int)) = false := decide_eq_false (by omega)
  have hmk := mk_num (P := Try.prog) 22 5 .u8 1 Try.underlying22 info_u8 (by omega) n (by omega)
  go_enter Try.func37, Try.ntmps37
  go_wp2_with (go_at_call 38; refine (limb_bits H.out).mono ?_; rintro e w' ⟨rfl, rfl⟩)
  go_loopw [7, 8, 26] (fun i k j wr => ∃ q : Nat, q ≤ n ∧ j = .int .i64 q ∧ wr.ownsRow w.heap.size 5 1 (.slice (some ⟨w.heap.size, 0, none⟩) n n) n (nums .u8 (fillTo (fun i => v / 256 ^ (n - 1 - i) % 256) n q)) ∧ Below w.heap.size w wr) (fun i k j _ => n - (intOf j).toNat)
  case atStart => exact ⟨0, Nat.zero_le _, rfl, by rw [fillTo_zero]; exact own_made w w.heap.size 5 .u8 n (Nat.le_refl _) (by simp only [maxLen]; omega), (Below.refl _ _).alloc (Nat.le_refl _) _⟩
  case round =>
    obtain ⟨q, hq, rfl, hown, hbel⟩ := hrel
    have HO := Lib.hid hown
    have HBl := Lib.hid hbel
    clear hown hbel hmk
    rcases Nat.lt_or_ge q n with hqn | hqn
    · obtain ⟨hcl, hfz⟩ := own_at HO.out q hqn
      generalize (fillTo (fun i => v / 256 ^ (n - 1 - i) % 256) n q).getD q 0 = z at hcl
      by_cases hb : (n - 1 - q) / 8 < xs.length
      · obtain ⟨b, off, rfl, hb1, hb2, hcell⟩ := H6.out.num hb
        have hc := (HBl.out.cell (p := ⟨b, off + (n - 1 - q) / 8, none⟩) (by simp only; omega)).trans (hcell _ hb)
        have HF : Hid (xs.getD ((n - 1 - q) / 8) 0 / 2 ^ ((n - 1 - q) % 8 * 8) % 256 = v / 256 ^ (n - 1 - q) % 256) := by
          have := byte_of_limb H4.out (n - 1 - q)
          rw [H5.out] at this
          exact this
        have hx := H4.out.get (by omega) ((n - 1 - q) / 8)
        clear hcell
        generalize xs.getD ((n - 1 - q) / 8) 0 = x at hc HF hx
        have HX := Lib.hid hx
        clear hx
        have hb' : decide (((n : Int) - 1 - q) / 8 < (xs.length : Int)) = true := decide_eq_true (by omega)
        go_wp2
        go_roundw
        case rel =>
          have e : (x : Int) / 2 ^ ((n - 1 - q) % 8 * 8) % 256 = ((x / 2 ^ ((n - 1 - q) % 8 * 8) % 256 : Nat) : Int) := cast_div_mod x _ 256
          rw [e]
          obtain ⟨hs, hg⟩ := own_set HO.out q (x / 2 ^ ((n - 1 - q) % 8 * 8) % 256)
          refine ⟨q + 1, hqn, by go_num, ?_, HBl.out.setCell (p := ⟨w.heap.size, q, none⟩) (Nat.le_refl _) _⟩
          rwa [fillTo_set _ n q _ HF.out] at hs
        case measure => simp [intOf]; omega
      · have hb' : decide (((n : Int) - 1 - q) / 8 < (xs.length : Int)) = false := decide_eq_false (by omega)
        have HF : Hid (v / 256 ^ (n - 1 - q) % 256 = 0) := by
          have := byte_beyond H4.out (n - 1 - q) (by omega)
          rw [H5.out] at this
          exact this
        go_wp2
        go_roundw
        case rel => exact ⟨q + 1, hqn, by go_num, by rw [← fillTo_skip _ n q HF.out]; exact HO.out, HBl.out⟩
        case measure => simp [intOf]; omega
    · obtain rfl : q = n := by omega
      go_wp2
      go_ret2
      rw [fillTo_full] at HO
      exact Rets2.mk ⟨rfl, rfl, HO.out, HBl.out⟩


/-! ### FromBytes -/
set_option maxHeartbeats 800000 in
theorem limb_frombytes {w : World} {L B c : Nat} {A : Option Addr} {l : List Nat} (h : Rd w L B A (nums .u8 l)) (hd : Dig 256 l) (hc : l.length ≤ c) (hl : l.length ≤ 1048576) (hB : B ≤ w.heap.size) :
    Calls Try.prog 39 #[.slice A l.length c] w (Rets fun V' w' => Big w' w.heap.size w'.heap.size (2 ^ 64) (beval l) V' ∧ Below w.heap.size w w') := by
  have H := Lib.hid h
  have HD := Lib.hid hd
  clear h hd
  obtain ⟨m, hm⟩ : ∃ m, m = (l.length + 7) / 8 := ⟨_, rfl⟩
  have hmk := mk_num (P := Try.prog) 38 57 .u64 8 Try.underlying38 info_u64 (by omega) m (by omega)
  rw [show (m : Int) = ((l.length : Int) + 7) / 8 from by omega] at hmk
  have HM := Lib.hid hm
  clear hm
  go_enter Try.func39, Try.ntmps39
  go_wp2
  go_loopw [4, 5, 6, 14] (fun i c k j wr => ∃ (q : Nat) (ys : List Nat), q ≤ l.length ∧ j = .int .i64 q ∧ wr.ownsRow w.heap.size 57 1 (.slice (some ⟨w.heap.size, 0, none⟩) m m) m (nums .u64 ys) ∧
      Hid (ys.length = m ∧ Dig (2 ^ 64) ys ∧ val (2 ^ 64) ys = beval (l.take q) * 256 ^ (l.length - q)) ∧ Below w.heap.size w wr) (fun i c k j _ => l.length - (intOf j).toNat)
  case atStart =>
    have hm : m ≤ 1048576 := by have := HM.out; omega
    exact ⟨0, List.replicate m 0, Nat.zero_le _, rfl, own_made w w.heap.size 57 .u64 m (Nat.le_refl _) (by simp only [maxLen]; omega), Lib.hid ⟨by simp, Dig.rep (by omega), by simp [val_rep, beval]⟩, (Below.refl _ _).alloc (Nat.le_refl _) _⟩
  case round =>
    obtain ⟨q, ys, hq, rfl, hown, HY, hbel⟩ := hrel
    have HO := Lib.hid hown
    have HBl := Lib.hid hbel
    clear hown hbel hmk
    rcases Nat.lt_or_ge q l.length with hqn | hqn
    · have hkm : (l.length - 1 - q) / 8 < m := by have := HM.out; omega
      obtain ⟨hcl, hfz⟩ := own_at HO.out ((l.length - 1 - q) / 8) hkm
      obtain ⟨b, off, rfl, hb1, hb2, hcell⟩ := H.out.num hqn
      have hc' := (HBl.out.cell (p := ⟨b, off + q, none⟩) (by simp only; omega)).trans (hcell _ hqn)
      have hx := HD.out.get (by omega) q
      clear hcell
      generalize hxx : l.getD q 0 = x at hc' hx
      generalize hyy : ys.getD ((l.length - 1 - q) / 8) 0 = y at hcl
      have HXX := Lib.hid hxx
      have HYY := Lib.hid hyy
      clear hxx hyy
      go_wp2
      go_region
      go_wp2
      go_roundw
      case rel =>
        obtain ⟨hyl, hyd, hyv⟩ := HY.out
        have hS : val (2 ^ 64) ys = beval (l.take q) * 256 ^ ((l.length - 1 - q) + 1) := by rw [hyv]; congr 2; omega
        obtain ⟨e1, e2⟩ := limb_or (k := l.length - 1 - q) hyd hx hS
        have e3 := limb_or_val (c := x) (k := l.length - 1 - q) (by omega) hS
        rw [HYY.out] at e1 e2 e3
        have hy64 : y < 2 ^ 64 := by omega
        have hz64 : x * 2 ^ ((l.length - 1 - q) % 8 * 8) < 2 ^ 64 := by omega
        obtain ⟨hs, hg⟩ := own_set HO.out ((l.length - 1 - q) / 8) (y + x * 2 ^ ((l.length - 1 - q) % 8 * 8))
        rw [cast_mul_pow, u64_wrap _ hz64, u64_or _ _ hy64 hz64, e1]
        refine ⟨q + 1, _, hqn, by go_num, hs.drew, Lib.hid ⟨by rw [List.length_set, hyl], hyd.set _ _ e2, ?_⟩, (HBl.out.setCell (p := ⟨w.heap.size, (l.length - 1 - q) / 8, none⟩) (Nat.le_refl _) _).drew⟩
        rw [e3, beval_take_succ l q hqn, HXX.out]
        congr 2
        omega
      case measure => simp [intOf]; omega
    · obtain rfl : q = l.length := by omega
      obtain ⟨hyl, hyd, hyv⟩ := HY.out
      rw [List.take_length, Nat.sub_self, Nat.pow_zero, Nat.mul_one] at hyv
      have hm := HM.out
      have hN : Hid (Num wr w.heap.size wr.heap.size (2 ^ 64) (beval l) (.slice (some ⟨w.heap.size, 0, none⟩) m m)) := by
        have := num_of_own HO.out (by omega) hyd
        rwa [hyv] at this
      clear hyl hyd hyv hm
      go_wp2_with (go_at_call 52; refine (limb_trim_num hN.out).mono ?_; rintro e w' ⟨V', rfl, hV, rfl⟩)
      go_ret
      exact Rets.mk ⟨hV, HBl.out⟩
end Go.Proofs.Ytanelmmklnpohaa
