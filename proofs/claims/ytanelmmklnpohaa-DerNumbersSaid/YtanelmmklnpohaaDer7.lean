/-
  Walks of der's reference: Write; of der: head.
  Conditions: none beyond the walks' own.
-/
import Derived.Test.YtanelmmklnpohaaDer6
namespace Go.Proofs.Ytanelmmklnpohaa
open Go.RowKit
set_option linter.unusedVariables false
set_option linter.unusedSimpArgs false

set_option maxHeartbeats 1000000 in
theorem ref_Write {n : Nd} {cs : List Value} {L B : Nat} {w : World} (h : RepN w L B n cs) (hB : B ≤ w.heap.size) :
    Calls Try.prog 10 #[.agg cs.toArray] w (BytesOk w (WriteN n)) := by
  have H := Lib.hid h
  obtain ⟨t, A, n1, c, A', n2, c', rfl⟩ := box_node h
  clear h
  have HA := Lib.hid ((Below.refl w.heap.size w).alloc (Nat.le_refl _) (.cells #[.int .i64 t, .slice A n1 c, .slice A' n2 c'] 25))
  have HC0 : (w.alloc (.cells #[.int .i64 t, .slice A n1 c, .slice A' n2 c'] 25)).cell? ⟨w.heap.size, 0, none⟩ = some (.int .i64 t) := by rw [World.cell?_alloc_at _ _ _ _ rfl]; rfl
  have HC1 : (w.alloc (.cells #[.int .i64 t, .slice A n1 c, .slice A' n2 c'] 25)).cell? ⟨w.heap.size, 1, none⟩ = some (.slice A n1 c) := by rw [World.cell?_alloc_at _ _ _ _ rfl]; rfl
  have HC2 : (w.alloc (.cells #[.int .i64 t, .slice A n1 c, .slice A' n2 c'] 25)).cell? ⟨w.heap.size, 2, none⟩ = some (.slice A' n2 c') := by rw [World.cell?_alloc_at _ _ _ _ rfl]; rfl
  have HH := Lib.hid (H.out.alloc hB (.cells #[.int .i64 t, .slice A n1 c, .slice A' n2 c'] 25))
  have hsz : (w.alloc (.cells #[.int .i64 t, .slice A n1 c, .slice A' n2 c'] 25)).heap.size = w.heap.size + 1 := by simp
  have HWR := Lib.hid (write_ref n)
  have HMR := Lib.hid (may_ref n)
  have HSM := Lib.hid H.out.small
  go_enter Try.func10, Try.ntmps10
  go_wp2_with fail
  generalize w.alloc (.cells #[.int .i64 t, .slice A n1 c, .slice A' n2 c'] 25) = W1 at HA HC0 HC1 HC2 HH hsz ⊢
  have S1 := Lib.hid hsz
  have hBW : B ≤ W1.heap.size := by omega
  have hwW : w.heap.size < W1.heap.size := by omega
  clear hsz H
  refine Calls.mono (ref_May HH.out hBW) ?_
  rintro e w2 ⟨rfl, hb2⟩
  have c0 := (hb2.cell (p := ⟨w.heap.size, 0, none⟩) hwW).trans HC0
  have c1 := (hb2.cell (p := ⟨w.heap.size, 1, none⟩) hwW).trans HC1
  have c2 := (hb2.cell (p := ⟨w.heap.size, 2, none⟩) hwW).trans HC2
  have HH2 := Lib.hid (HH.out.below hb2 hBW)
  have HB2 := Lib.hid (below_then HA.out (by omega) hb2)
  have S2 := Lib.hid hb2.size
  clear HC0 HC1 HC2 hb2
  cases hm : MayN n with
  | false =>
    have HW := Lib.hid (show WriteN n = none by unfold WriteN; rw [hm]; rfl)
    clear hm
    go_wp2
    go_ret2
    exact BytesOk.no HW.out HB2.out
  | true =>
    have HW := Lib.hid (show WriteN n = if 65536 < (putN n).length then none else some (putN n) by rw [HWR.out]; unfold RefWrite; rw [← HMR.out, hm]; rfl)
    have hok := ok_of_may hm
    have HPL := put_len HSM.out hok.2.2
    have HSI := Lib.hid hok.2.2
    clear hm hok
    go_wp2_with fail
    refine Calls.mono (ref_put _ n [.int .i64 t, .slice A n1 c, .slice A' n2 c'] L B _ (Nat.le_refl _) HSI.out HH2.out (by have := S2.out; omega)) ?_
    rintro e w3 ⟨V3, rfl, hox, hb3⟩
    have HB3 := Lib.hid (below_then HB2.out HB2.out.size hb3)
    have S3 := Lib.hid HB2.out.size
    obtain ⟨Ax, cx, hVx, hcx, hmx⟩ := own_form hox
    subst hVx
    have HR := Lib.hid (own_rd hox)
    clear hb3 hox
    by_cases hl : 65536 < (putN n).length
    · have HW2 := Lib.hid (show WriteN n = none by rw [HW.out, if_pos hl])
      have d1 : decide (65536 < ((putN n).length : Int)) = true := decide_eq_true (by omega)
      go_wp2
      go_ret2
      exact BytesOk.no HW2.out HB3.out
    · have HW2 := Lib.hid (show WriteN n = some (putN n) by rw [HW.out, if_neg hl])
      have d1 : decide (65536 < ((putN n).length : Int)) = false := decide_eq_false (by omega)
      go_wp2
      go_ret2
      exact BytesOk.yes HW2.out rfl hcx hmx (by omega) HR.out S3.out HB3.out

/-! ### head -/
theorem info_u8_parts : ∃ i, Try.prog.info? 5 = some i ∧ i.size = 1 := by
  obtain ⟨i, hi, _, h2, _⟩ := info_parts info_u8
  exact ⟨i, hi, h2⟩
def HeadPost (w : World) (L B : Nat) (r : Option (Nat × List Nat × List Nat)) (e : Ending) (w' : World) : Prop :=
  Below w.heap.size w w' ∧ (r = none → e = .returned (.tuple #[.int .i64 0, .slice none 0 0, .slice none 0 0, .bool false])) ∧
  ∀ t h s, r = some (t, h, s) → ∃ A1 c1 A2 c2, e = .returned (.tuple #[.int .i64 (t : Int), .slice A1 h.length c1, .slice A2 s.length c2, .bool true]) ∧ h.length ≤ c1 ∧ c1 ≤ maxLen ∧ s.length ≤ c2 ∧ c2 ≤ maxLen ∧ Rd w' L B A1 (nums .u8 h) ∧ Rd w' L B A2 (nums .u8 s)
theorem HeadPost.no {w w' : World} {L B : Nat} {r : Option (Nat × List Nat × List Nat)} (h : r = none) (hb : Below w.heap.size w w') : HeadPost w L B r (.returned (.tuple #[.int .i64 0, .slice none 0 0, .slice none 0 0, .bool false])) w' :=
  ⟨hb, fun _ => rfl, fun t h' s e => by rw [h] at e; cases e⟩
theorem HeadPost.yes {w w' : World} {L B : Nat} {r : Option (Nat × List Nat × List Nat)} {t k1 c1 k2 c2 : Nat} {h s : List Nat} {A1 A2 : Option Addr} (e : r = some (t, h, s)) (e1 : k1 = h.length) (e2 : k2 = s.length) (hc1 : h.length ≤ c1) (hm1 : c1 ≤ maxLen) (hc2 : s.length ≤ c2) (hm2 : c2 ≤ maxLen)
    (hr1 : Rd w' L B A1 (nums .u8 h)) (hr2 : Rd w' L B A2 (nums .u8 s)) (hb : Below w.heap.size w w') : HeadPost w L B r (.returned (.tuple #[.int .i64 (t : Int), .slice A1 k1 c1, .slice A2 k2 c2, .bool true])) w' := by
  subst e e1 e2
  refine ⟨hb, (fun h => by cases h), fun t' h' s' e => ?_⟩
  injection e with e
  simp only [Prod.mk.injEq] at e
  obtain ⟨rfl, rfl, rfl⟩ := e
  exact ⟨A1, c1, A2, c2, rfl, hc1, hm1, hc2, hm2, hr1, hr2⟩
theorem i64_or_shift (n x : Nat) (hn : n < 16777216) (hx : x < 256) : bits .or .i64 ((n : Int) * 256) (x : Int) = ((n * 256 + x : Nat) : Int) := by
  have e : (n : Int) * 256 = ((n * 256 : Nat) : Int) := by omega
  rw [e]
  have h1 : (BitVec.ofInt 64 ((n * 256 : Nat) : Int)).toNat = n * 256 := ofInt_u64 _ (by omega)
  have h2 : (BitVec.ofInt 64 (x : Int)).toNat = x := ofInt_u64 _ (by omega)
  show IntKind.i64.wrap ((BitVec.ofInt 64 ((n * 256 : Nat) : Int) ||| BitVec.ofInt 64 (x : Int)).toNat : Int) = _
  rw [BitVec.toNat_or, h1, h2, Nat.mul_comm n 256, show (256 : Nat) = 2 ^ 8 from rfl, ← Nat.two_pow_add_eq_or_of_lt (i := 8) hx, IntKind.wrap_i64]
  omega
set_option maxHeartbeats 2000000 in
set_option maxRecDepth 100000 in
theorem der_head (l : List Nat) (A : Option Addr) (c L B : Nat) (w : World) (hl : l.length ≤ 1048576) (hc : l.length ≤ c) (hcm : c ≤ maxLen) (hd : Dig 256 l) (h : Rd w L B A (nums .u8 l)) (hB : B ≤ w.heap.size) :
    Calls Try.prog 50 #[.slice A l.length c] w (HeadPost w L B (headB l)) := by
  have H := Lib.hid h
  have HD := Lib.hid hd
  clear h hd
  by_cases h2 : l.length < 2
  · have HH := Lib.hid (headB_short h2)
    have d1 : decide ((l.length : Int) < 2) = true := decide_eq_true (by omega)
    go_enter Try.func50, Try.ntmps50
    go_wp2
    refine bodyPost_ret (results_tmp4 rfl _ _ _) rfl ?_
    exact HeadPost.no HH.out (Below.refl _ _)
  obtain ⟨x, y, r, rfl⟩ : ∃ x y r, l = x :: y :: r := by
    rcases l with _ | ⟨x, _ | ⟨y, r⟩⟩
    · simp at h2
    · simp at h2
    · exact ⟨x, y, r, rfl⟩
  obtain ⟨b, off, rfl, hb1, hb2, hcell⟩ := H.out.num (i := 0) (by omega)
  have c0 := hcell 0 (by omega)
  have c1 := hcell 1 (by omega)
  rw [Nat.add_zero] at c0
  simp only [List.getD_cons_zero, List.getD_cons_succ] at c0 c1
  have hx256 := (Dig.cons.1 HD.out).1
  have hy := (Dig.cons.1 (Dig.cons.1 HD.out).2).1
  have HR := Lib.hid (Dig.cons.1 (Dig.cons.1 HD.out).2).2
  obtain ⟨i, hi, hsz⟩ := info_u8_parts
  obtain ⟨cr, rfl⟩ : ∃ cr, c = cr + 2 := ⟨c - 2, by simp at hc; omega⟩
  have hl' : r.length + 2 ≤ 1048576 := by simpa using hl
  have hc' : r.length ≤ cr := by simp at hc; omega
  obtain ⟨A2, hcut2, hrd2⟩ := cut_from (P := Try.prog) 22 5 .i64 Try.underlying22 hi hsz (some ⟨b, off, none⟩) (r.length + 2) (cr + 2) 2 (by omega) (by omega)
  have R2 := Lib.hid (show Rd w L B A2 (nums .u8 r) by
    have := hrd2 w L B (nums .u8 (x :: y :: r)) (by rw [nums_length]; rfl) H.out
    exact this)
  rw [show ((2 : Nat) : Int) = 2 from rfl, Nat.add_sub_cancel, Nat.add_sub_cancel] at hcut2
  have hlen : (x :: y :: r).length = r.length + 2 := rfl
  rw [hlen]
  have d1 : decide ((r.length : Int) + 2 < 2) = false := decide_eq_false (by omega)
  have HE := Lib.hid (headB_two x y r)
  clear hrd2 hcell HD hl hc hlen h2
  have hcm' : cr ≤ 9223372036854775805 := by simp only [maxLen] at hcm; omega
  by_cases hy128 : y < 128
  · have HE2 := Lib.hid (show headB (x :: y :: r) = if r.length < y then none else some (x, r.take y, r.drop y) by rw [HE.out, if_pos hy128])
    have d2 : decide (128 ≤ (y : Int)) = false := decide_eq_false (by omega)
    clear HE
    by_cases hly : r.length < y
    · have HE3 := Lib.hid (show headB (x :: y :: r) = none by rw [HE2.out, if_pos hly])
      have d3 : decide ((r.length : Int) < (y : Int)) = true := decide_eq_true (by omega)
      go_enter Try.func50, Try.ntmps50
      go_wp2
      go_quiet (fail)
      go_wp2
      refine bodyPost_ret (results_tmp4 rfl _ _ _) rfl ?_
      exact HeadPost.no HE3.out (below_drewN (Below.refl _ _) _)
    · have HE3 := Lib.hid (show headB (x :: y :: r) = some (x, r.take y, r.drop y) by rw [HE2.out, if_neg hly])
      have d3 : decide ((r.length : Int) < (y : Int)) = false := decide_eq_false (by omega)
      obtain ⟨A3, hcut3, hrd3⟩ := cut_from (P := Try.prog) 22 5 .i64 Try.underlying22 hi hsz A2 r.length cr y (by omega) hc'
      have HR3 := Lib.hid hrd3
      clear hrd3
      go_enter Try.func50, Try.ntmps50
      go_wp2
      go_quiet (fail)
      go_wp2
      go_quiet (fail)
      go_wp2
      refine bodyPost_ret (results_tmp4 rfl _ _ _) rfl ?_
      refine HeadPost.yes HE3.out (by rw [List.length_take]; omega) (by rw [List.length_drop]) (by rw [List.length_take]; omega) (by simp only [maxLen]; omega) (by rw [List.length_drop]; omega) (by simp only [maxLen]; omega) ?_ ?_ (below_drewN (below_drewN (Below.refl _ _) _) _)
      · rw [nums_take]; exact ((R2.out.take _).drewN _).drewN _
      · rw [nums_drop]; exact ((HR3.out w L B _ (nums_length _ _) R2.out).drewN _).drewN _
  · obtain ⟨k, rfl⟩ : ∃ k, y = k + 128 := ⟨y - 128, by omega⟩
    rw [Nat.add_sub_cancel, if_neg hy128] at HE
    have d2 : decide (128 ≤ ((k : Int) + 128)) = true := decide_eq_true (by omega)
    by_cases g1 : k < 1
    · have HE3 := Lib.hid (show headB (x :: (k + 128) :: r) = none by rw [HE.out, if_pos (.inl g1)])
      have d3 : decide ((k : Int) < 1) = true := decide_eq_true (by omega)
      clear HE
      go_enter Try.func50, Try.ntmps50
      go_wp2
      go_quiet (fail)
      go_wp2
      refine bodyPost_ret (results_tmp4 rfl _ _ _) rfl ?_
      exact HeadPost.no HE3.out (below_drewN (Below.refl _ _) _)
    have d3 : decide ((k : Int) < 1) = false := decide_eq_false (by omega)
    by_cases g2 : 3 < k
    · have HE3 := Lib.hid (show headB (x :: (k + 128) :: r) = none by rw [HE.out, if_pos (.inr (.inl g2))])
      have d4 : decide (3 < (k : Int)) = true := decide_eq_true (by omega)
      clear HE
      go_enter Try.func50, Try.ntmps50
      go_wp2
      go_quiet (fail)
      go_wp2
      refine bodyPost_ret (results_tmp4 rfl _ _ _) rfl ?_
      exact HeadPost.no HE3.out (below_drewN (Below.refl _ _) _)
    have d4 : decide (3 < (k : Int)) = false := decide_eq_false (by omega)
    by_cases g3 : r.length < k
    · have HE3 := Lib.hid (show headB (x :: (k + 128) :: r) = none by rw [HE.out, if_pos (.inr (.inr (.inl g3)))])
      have d5 : decide ((r.length : Int) < (k : Int)) = true := decide_eq_true (by omega)
      clear HE
      go_enter Try.func50, Try.ntmps50
      go_wp2
      go_quiet (fail)
      go_wp2
      refine bodyPost_ret (results_tmp4 rfl _ _ _) rfl ?_
      exact HeadPost.no HE3.out (below_drewN (Below.refl _ _) _)
    have d5 : decide ((r.length : Int) < (k : Int)) = false := decide_eq_false (by omega)
    obtain ⟨b2, off2, rfl, _, _, hcell2⟩ := R2.out.num (i := 0) (by omega)
    have hz := hcell2 0 (by omega)
    rw [Nat.add_zero] at hz
    have HCL := Lib.hid hcell2
    clear hcell2
    by_cases g4 : r.getD 0 0 = 0
    · have HE3 := Lib.hid (show headB (x :: (k + 128) :: r) = none by rw [HE.out, if_pos (.inr (.inr (.inr g4)))])
      rw [g4] at hz
      clear HE g4
      go_enter Try.func50, Try.ntmps50
      go_wp2
      go_quiet (fail)
      go_wp2
      refine bodyPost_ret (results_tmp4 rfl _ _ _) rfl ?_
      exact HeadPost.no HE3.out (below_drewN (Below.refl _ _) _)
    have HE2 := Lib.hid (show headB (x :: (k + 128) :: r) = if beval (r.take k) < 128 then none else if (r.drop k).length < beval (r.take k) then none else some (x, (r.drop k).take (beval (r.take k)), (r.drop k).drop (beval (r.take k))) by
      rw [HE.out, if_neg (by simp only [not_or]; exact ⟨g1, g2, g3, g4⟩)])
    have hr0 : 0 < r.length := by omega
    generalize r.getD 0 0 = z at hz g4
    have d6 : ((z : Int) == 0) = false := lit_beq_false (by omega)
    have HM := Lib.hid (show beval (r.take k) < 16777216 by
      have h1 := beval_lt (HR.out.take k)
      rw [List.length_take, Nat.min_eq_left (by omega)] at h1
      have h2 : 256 ^ k ≤ 256 ^ 3 := Nat.pow_le_pow_right (by omega) (by omega)
      have h3 : (256 : Nat) ^ 3 = 16777216 := by rfl
      omega)
    clear HE g4
    go_enter Try.func50, Try.ntmps50
    go_wp2
    go_quiet (fail)
    go_wp2
    go_loop [7, 11, 51] (fun n bx i => ∃ q : Nat, q ≤ k ∧ i = .int .i64 q ∧ n = .int .i64 ((beval (r.take q) : Nat) : Int)) (fun n bx i => k - (intOf i).toNat)
    case atStart => exact ⟨0, Nat.zero_le _, rfl, by simp [beval]⟩
    case round =>
      obtain ⟨q, hq, rfl, rfl⟩ := hrel
      rcases Nat.lt_or_ge q k with hqk | hqk
      · have hc := HCL.out q (by omega)
        have hx := HR.out.get (by omega) q
        have hsucc := beval_take_succ r q (by omega)
        have hlt : beval (r.take q) < 65536 := by
          have h1 := beval_lt (HR.out.take q)
          rw [List.length_take, Nat.min_eq_left (by omega)] at h1
          have h2 : 256 ^ q ≤ 256 ^ 2 := Nat.pow_le_pow_right (by omega) (by omega)
          have h3 : (256 : Nat) ^ 2 = 65536 := by rfl
          omega
        generalize r.getD q 0 = v at hc hx hsucc
        have HSU := Lib.hid hsucc
        clear hsucc
        generalize hn : beval (r.take q) = n at hlt HSU ⊢
        clear hn
        go_wp2
        go_round
        case rel =>
          refine ⟨q + 1, hqk, by go_num, ?_⟩
          rw [HSU.out]
          have e := i64_or_shift n v (by omega) hx
          simp only [Value.int.injEq, true_and]
          rw [e]
          omega
        case measure => simp [intOf]; omega
      · obtain rfl : q = k := by omega
        have hm24 : beval (r.take q) < 16777216 := HM.out
        obtain ⟨A4, hcut4, hrd4⟩ := cut_from (P := Try.prog) 22 5 .i64 Try.underlying22 hi hsz (some ⟨b2, off2, none⟩) r.length cr q (by omega) hc'
        have R4 := Lib.hid (hrd4 w L B _ (nums_length _ _) R2.out)
        rw [← nums_drop] at R4
        have hdl : (r.drop q).length = r.length - q := List.length_drop
        have HDL := Lib.hid hdl
        generalize hm : beval (r.take q) = m at hm24 HE2 ⊢
        clear hrd4 HM hm hdl
        by_cases g5 : m < 128
        · have HE3 := Lib.hid (show headB (x :: (q + 128) :: r) = none by rw [HE2.out, if_pos g5])
          have d7 : decide ((m : Int) < 128) = true := decide_eq_true (by omega)
          go_wp2
          refine bodyPost_ret (results_tmp4 rfl _ _ _) rfl ?_
          exact HeadPost.no HE3.out (below_drewN (Below.refl _ _) _)
        have d7 : decide ((m : Int) < 128) = false := decide_eq_false (by omega)
        by_cases g6 : r.length - q < m
        · have HE3 := Lib.hid (show headB (x :: (q + 128) :: r) = none by rw [HE2.out, if_neg g5, if_pos (by rw [HDL.out]; exact g6)])
          have d8 : decide (((r.length - q : Nat) : Int) < (m : Int)) = true := decide_eq_true (by omega)
          go_wp2
          refine bodyPost_ret (results_tmp4 rfl _ _ _) rfl ?_
          exact HeadPost.no HE3.out (below_drewN (Below.refl _ _) _)
        · have HE3 := Lib.hid (show headB (x :: (q + 128) :: r) = some (x, (r.drop q).take m, (r.drop q).drop m) by rw [HE2.out, if_neg g5, if_neg (by rw [HDL.out]; exact g6)])
          have d8 : decide (((r.length - q : Nat) : Int) < (m : Int)) = false := decide_eq_false (by omega)
          obtain ⟨A5, hcut5, hrd5⟩ := cut_from (P := Try.prog) 22 5 .i64 Try.underlying22 hi hsz A4 (r.length - q) (cr - q) m (by omega) (by omega)
          have HR5 := Lib.hid hrd5
          clear hrd5
          go_wp2
          go_quiet (fail)
          go_wp2
          refine bodyPost_ret (results_tmp4 rfl _ _ _) rfl ?_
          refine HeadPost.yes HE3.out (by rw [List.length_take, HDL.out]; omega) (by rw [List.length_drop, HDL.out]) (by rw [List.length_take, HDL.out]; omega) (by simp only [maxLen]; omega) (by rw [List.length_drop, HDL.out]; omega) (by simp only [maxLen]; omega) ?_ ?_ (below_drewN (below_drewN (Below.refl _ _) _) _)
          · rw [nums_take]; exact ((R4.out.take _).drewN _).drewN _
          · rw [nums_drop]; exact ((HR5.out w L B _ (by rw [nums_length, HDL.out]) R4.out).drewN _).drewN _
end Go.Proofs.Ytanelmmklnpohaa
