/-
  Walks of the package der: headed, write, Write.
  Conditions: none beyond the walks' own.
-/
import Derived.Test.YtanelmmklnpohaaDer2
namespace Go.Proofs.Ytanelmmklnpohaa
open Go.RowKit
set_option linter.unusedVariables false
set_option linter.unusedSimpArgs false

theorem cast_mod_nat (t : Int) : t % 256 = (((t % 256).toNat : Nat) : Int) := by omega
/-- A row of bytes of the call's own. -/
def OwnB (w : World) (base : Nat) (V : Value) (l : List Nat) : Prop := w.ownsRow base 5 1 V l.length (nums .u8 l)

theorem limb_bytes_int {w : World} {L B v : Nat} {V : Value} (N : Int) (n : Nat) (hN : N = (n : Int)) (h : Num w L B (2 ^ 64) v V) (hB : B ≤ w.heap.size) (hn : n ≤ 65536) (hv : blen v ≤ 8 * n) :
    Calls Try.prog 37 #[V, .int .i64 N] w (Rets2 fun V' u w' => u = .bool true ∧ V' = .slice (some ⟨w.heap.size, 0, none⟩) n n ∧ w'.ownsRow w.heap.size 5 1 V' n (nums .u8 (bebytes n v)) ∧ Below w.heap.size w w') := by
  subst hN
  exact limb_bytes n h hB hn hv
set_option maxHeartbeats 1000000 in
theorem der_headed (t : Int) (b : List Nat) (A : Option Addr) (c L B : Nat) (w : World) (hc : b.length ≤ c) (hl : b.length ≤ 100000) (h : Rd w L B A (nums .u8 b)) (hB : B ≤ w.heap.size) :
    Calls Try.prog 47 #[.int .i64 t, .slice A b.length c] w (Rets fun V w' => OwnB w' w.heap.size V (headed t b) ∧ Below w.heap.size w w') := by
  have H := Lib.hid h
  clear h
  have O1 := Lib.hid (own_lit1 w w.heap.size 5 (.int .u8 (t % 256)) (Nat.le_refl _))
  have B1 := Lib.hid ((Below.refl w.heap.size w).alloc (Nat.le_refl _) (.cells #[.int .u8 (t % 256)] 5))
  by_cases h1 : b.length < 128
  · have d1 : decide ((b.length : Int) < 128) = true := decide_eq_true (by omega)
    go_enter Try.func47, Try.ntmps47
    go_wp2_with (first
      | (at_builtin
         refine wpList_append_lit (w0 := w) rfl (.tmp 16) (.tmp 19) _ rfl w.heap.size 5 (.int .u8 0) 1 Try.underlying22 info_u8 rfl (.slice (some ⟨w.heap.size, 0, none⟩) 1 1) 1 [.int .u8 (t % 256)] _ rfl O1.out
           (w.heap.size + 1) rfl (by simp) (by rfl) (by simp only [maxLen]; omega) (by omega) (by simp) B1.out ?_
         intro v1 w1 hown1 hbel1 hg1 hat1)
      | (at_builtin
         refine wpList_append_rd _ rfl (.tmp 43) (.tmp 44) _ rfl w.heap.size 5 (.int .u8 0) 1 1 Try.underlying22 info_u8 rfl (by omega) v1 _ _ rfl hown1
           L B A b.length c (nums .u8 b) rfl (by rw [nums_length, Nat.mul_one]) (by exact H.out.below hbel1 hB) (nums_one _ _) (by simp only [maxLen]; omega) (by omega) hbel1.size ?_
         intro v2 w2 hown2 hg2 hat2 hnil2))
    go_ret
    refine Rets.mk ⟨?_, hbel1.grown hg2 hbel1.size (own_base hown1)⟩
    have e : nums .u8 (headed t b) = [.int .u8 (t % 256)] ++ [.int .u8 (b.length : Int)] ++ nums .u8 b := by
      unfold headed lenBytes
      rw [if_pos h1, cast_mod_nat]
      simp [nums]
    unfold OwnB
    rw [e, headed_length, lenBytes_length, if_pos h1]
    exact hown2
  · have d1 : decide ((b.length : Int) < 128) = false := decide_eq_false (by omega)
    have hb17 : blen b.length ≤ 17 := blen_le.2 (by omega)
    obtain ⟨k, hk⟩ : ∃ k, k = (blen b.length + 7) / 8 := ⟨_, rfl⟩
    have hk3 : k ≤ 3 := by omega
    have hkv : blen b.length ≤ 8 * k := by omega
    have HK := Lib.hid hk
    go_enter Try.func47, Try.ntmps47
    go_wp2_with fail
    refine Calls.mono (limb_of b.length _ (by omega)) ?_
    rintro e w2 ⟨V2, rfl, hV2, hb2⟩
    have S1 := Lib.hid (show w.heap.size + 1 ≤ w2.heap.size by have := hb2.size; simpa using this)
    go_wp2_with fail
    refine Calls.mono (limb_of b.length _ (by omega)) ?_
    rintro e w3 ⟨V3, rfl, hV3, hb3⟩
    have C3 := Lib.hid (below_then hb2 hb2.size hb3)
    have HV2 := Lib.hid (hV2.below hb3 (Nat.le_refl _))
    have HV3 := Lib.hid hV3
    have HB3 := Lib.hid hb3.size
    clear hb2 hb3 hV2 hV3 hk
    go_wp2_with fail
    refine Calls.mono (limb_bits HV3.out.num) ?_
    rintro e w3' ⟨rfl, rfl⟩
    go_wp2_with fail
    refine Calls.mono (limb_bytes_int _ k (by have := HK.out; omega) HV2.out.num HB3.out (by omega) hkv) ?_
    rintro e w4 ⟨V4, u4, rfl, rfl, rfl, hown4, hb4⟩
    have C4 := below_then C3.out C3.out.size hb4
    have B4 := Lib.hid (below_then B1.out (by simp) C4)
    have OO := Lib.hid (own_below O1.out C4)
    have R4 := Lib.hid (own_rd hown4)
    have S3 := Lib.hid (show w.heap.size + 1 ≤ w3.heap.size by have := C3.out.size; simpa using this)
    have S4 := Lib.hid hb4.size
    clear hb4 hown4 C4
    go_wp2_with (first
      | (at_builtin
         refine wpList_append_lit (w0 := w) rfl (.tmp 34) (.tmp 39) _ rfl w.heap.size 5 (.int .u8 0) 1 Try.underlying22 info_u8 rfl (.slice (some ⟨w.heap.size, 0, none⟩) 1 1) 1 [.int .u8 (t % 256)] _ rfl OO.out
           w4.heap.size rfl rfl (by rfl) (by simp only [maxLen]; omega) (by omega) B4.out.size B4.out ?_
         intro v5 w5 hown5 hbel5 hg5 hat5
         have R5 := Lib.hid (R4.out.grown hg5 (Nat.le_refl _) (fun g e => by have := S3.out; simp [Value.ownBlock] at e; omega))
         have S5 := Lib.hid hg5.size)
      | (at_builtin
         refine wpList_append_rd _ rfl (.tmp 40) (.tmp 41) _ rfl w.heap.size 5 (.int .u8 0) 1 1 Try.underlying22 info_u8 rfl (by omega) v5 _ _ rfl hown5
           w3.heap.size w4.heap.size (some ⟨w3.heap.size, 0, none⟩) k k (nums .u8 (bebytes k b.length)) rfl (by rw [nums_length, Nat.mul_one, bebytes_length]) (by exact R5.out) (nums_one _ _) (by simp only [maxLen]; omega) (by omega) hbel5.size ?_
         intro v6 w6 hown6 hg6 hat6 hnil6
         have hbel6 := hbel5.grown hg6 hbel5.size (own_base hown5))
      | (at_builtin
         refine wpList_append_rd _ rfl (.tmp 43) (.tmp 44) _ rfl w.heap.size 5 (.int .u8 0) 1 1 Try.underlying22 info_u8 rfl (by omega) v6 _ _ rfl hown6
           L B A b.length c (nums .u8 b) rfl (by rw [nums_length, Nat.mul_one]) (by exact H.out.below hbel6 hB) (nums_one _ _) (by simp only [maxLen]; omega) (by omega) hbel6.size ?_
         intro v7 w7 hown7 hg7 hat7 hnil7))
    go_ret
    refine Rets.mk ⟨?_, hbel6.grown hg7 hbel6.size (own_base hown6)⟩
    have e : nums .u8 (headed t b) = [.int .u8 (t % 256)] ++ [.int .u8 (128 + (k : Int))] ++ nums .u8 (bebytes k b.length) ++ nums .u8 b := by
      unfold headed
      rw [lenBytes_ge (by omega), ← HK.out, cast_mod_nat]
      simp [nums]
    unfold OwnB
    rw [e, headed_length, lenBytes_length, if_neg h1, ← HK.out]
    rw [show 1 + (1 + k) + b.length = 1 + 1 + k + b.length from by omega]
    exact hown7

/-! ### write -/
def WrPost (w : World) (r : Option (List Nat)) (e : Ending) (w' : World) : Prop :=
  ∃ V b, e = .returned (.tuple #[V, .bool b]) ∧ Below w.heap.size w w' ∧ (∀ c, r = some c → b = true ∧ OwnB w' w.heap.size V c ∧ c.length ≤ 65536) ∧ (r = none → b = false)
theorem WrPost.yes {w w' : World} {r : Option (List Nat)} {V : Value} {c : List Nat} (h : r = some c) (hb : Below w.heap.size w w') (ho : OwnB w' w.heap.size V c) (hl : c.length ≤ 65536) : WrPost w r (.returned (.tuple #[V, .bool true])) w' :=
  ⟨V, true, rfl, hb, fun c' h' => by rw [h] at h'; injection h' with h'; subst h'; exact ⟨rfl, ho, hl⟩, fun h' => by rw [h] at h'; cases h'⟩
theorem WrPost.no {w w' : World} {r : Option (List Nat)} {V : Value} (h : r = none) (hb : Below w.heap.size w w') : WrPost w r (.returned (.tuple #[V, .bool false])) w' :=
  ⟨V, false, rfl, hb, (fun c' h' => by rw [h] at h'; cases h'), fun _ => rfl⟩
theorem okKs_drop {ks : List Nd} {q : Nat} {k : Nd} {r : List Nd} (h : okN.okKs (ks.drop q) = true) (e : ks.drop q = k :: r) : okN k = true ∧ okN.okKs r = true := by
  rw [e] at h
  simpa [okN.okKs] using h
set_option maxHeartbeats 2000000 in
theorem der_write (m : Nat) : ∀ (n : Nd) (cs : List Value) (L B : Nat) (w : World), sizeN n ≤ m → okN n = true → RepN w L B n cs → B ≤ w.heap.size →
    Calls Try.prog 30 #[.agg cs.toArray] w (WrPost w (writeN n)) := by
  induction m with
  | zero => intro n cs L B w hs; have := sizeN_pos n; omega
  | succ m ih =>
    intro n cs L B w hs hok hrep hB
    obtain ⟨t, b, ks⟩ := n
    unfold RepN at hrep
    obtain ⟨A, c, A', c', rfl, h1, h2, h3, h4, ⟨hbl, hkl⟩, h5, h6, h7, h8⟩ := hrep
    have IH := Lib.hid ih
    have H7 := Lib.hid h7
    have H8 := Lib.hid h8
    have HS := Lib.hid hs
    unfold okN at hok
    clear ih h6 h7 h8 hs
    have HA := Lib.hid ((Below.refl w.heap.size w).alloc (Nat.le_refl _) (.cells #[.int .i64 t, .slice A b.length c, .slice A' ks.length c'] 25))
    by_cases ht : t ≠ 48
    · rw [if_pos ht] at hok
      simp only [Bool.and_eq_true, decide_eq_true_eq] at hok
      have hk : ks = [] := List.eq_nil_of_length_eq_zero hok.1
      subst hk
      clear hok ht h5
      by_cases hl : 65536 < b.length
      · have HW := Lib.hid (show writeN (.mk t b []) = none by unfold writeN; simp only [writeKs]; rw [if_pos hl])
        have d1 : decide (65536 < (b.length : Int)) = true := decide_eq_true (by omega)
        go_enter Try.func30, Try.ntmps30
        go_wp2
        refine wp_loop_rounds 1 ?_
        rw [rounds_succ]
        go_wp2
        go_ret2
        exact WrPost.no HW.out HA.out
      · have d1 : decide (65536 < (b.length : Int)) = false := decide_eq_false (by omega)
        go_enter Try.func30, Try.ntmps30
        go_wp2
        refine wp_loop_rounds 1 ?_
        rw [rounds_succ]
        go_wp2_with fail
        refine Calls.mono (der_headed t b A c L B _ h1 (by omega) (by exact H7.out.alloc hB _) (by simp; omega)) ?_
        rintro e w2 ⟨V2, rfl, hown2, hb2⟩
        have B2 := Lib.hid (below_then HA.out (by simp) hb2)
        obtain ⟨A2, c2, hV2, hc2, hm2⟩ := own_form hown2
        subst hV2
        have O2 := Lib.hid hown2
        clear hb2 hown2
        by_cases hl2 : (headed t b).length ≤ 65536
        · have HW := Lib.hid (show writeN (.mk t b []) = some (headed t b) by unfold writeN; simp only [writeKs]; rw [if_neg hl, if_pos hl2])
          have d2 : decide (((headed t b).length : Int) ≤ 65536) = true := decide_eq_true (by omega)
          go_wp2
          go_ret2
          exact WrPost.yes HW.out B2.out (own_less O2.out (by simp)) hl2
        · have HW := Lib.hid (show writeN (.mk t b []) = none by unfold writeN; simp only [writeKs]; rw [if_neg hl, if_neg hl2])
          have d2 : decide (((headed t b).length : Int) ≤ 65536) = false := decide_eq_false (by omega)
          go_wp2
          go_ret2
          exact WrPost.no HW.out B2.out
    · rw [if_neg ht] at hok
      simp only [Bool.and_eq_true, decide_eq_true_eq] at hok
      have hb0 : b = [] := List.eq_nil_of_length_eq_zero hok.1
      obtain ⟨rfl, rfl⟩ := h5 (by omega) hb0
      subst hb0
      have hok2 := hok.2
      have HW := Lib.hid (show writeN (.mk t [] ks) = match writeKs ks [] with | none => none | some c => if 65536 < c.length then none else if (headed t c).length ≤ 65536 then some (headed t c) else none by unfold writeN; rfl)
      have HOK := Lib.hid hok2
      clear hok hok2 ht h5
      go_enter Try.func30, Try.ntmps30
      go_wp2
      have HC0 : (w.alloc (.cells #[.int .i64 t, .slice none 0 0, .slice A' ks.length c'] 25)).cell? ⟨w.heap.size, 0, none⟩ = some (.int .i64 t) := by rw [World.cell?_alloc_at _ _ _ _ rfl]; rfl
      have HA' : Below w.heap.size w (w.alloc (.cells #[.int .i64 t, .slice none 0 0, .slice A' ks.length c'] 25)) := HA.out
      have HSZ1 : (w.alloc (.cells #[.int .i64 t, .slice none 0 0, .slice A' ks.length c'] 25)).heap.size = w.heap.size + 1 := by simp
      generalize w.alloc (.cells #[.int .i64 t, .slice none 0 0, .slice A' ks.length c'] 25) = W1 at HC0 HA' HSZ1 ⊢
      have HA1 := Lib.hid HA'
      have HW1 := Lib.hid HSZ1
      have hBW : B ≤ W1.heap.size := by omega
      have hwW : w.heap.size < W1.heap.size := by omega
      have HC1 := Lib.hid HC0
      clear HA' HSZ1 HC0 HA
      go_loopw [4, 15] (fun bv i wr => ∃ (q : Nat) (acc : List Nat), q ≤ ks.length ∧ i = .int .i64 q ∧ Hid (OwnB wr W1.heap.size bv acc) ∧ acc.length ≤ 65536 ∧ Hid (Below W1.heap.size W1 wr) ∧ Hid (okN.okKs (ks.drop q) = true) ∧ Hid (writeKs (ks.drop q) acc = writeKs ks [])) (fun bv i _ => ks.length - (intOf i).toNat)
      case atStart => exact ⟨0, [], Nat.zero_le _, rfl, Lib.hid (World.ownsRow_nil _ _ _ _), by simp, Lib.hid (Below.refl _ _), HOK, Lib.hid rfl⟩
      case round =>
        obtain ⟨q, acc, hq, rfl, hO, hacc, hBl, hK, hT⟩ := hrel
        rcases Nat.lt_or_ge q ks.length with hlt2 | hge2
        · obtain ⟨g, off, rfl, hg1, hg2, hks⟩ := H8.out (by omega)
          obtain ⟨k, r, hdr, hdr1, hmem⟩ := drop_cons_lt hlt2
          obtain ⟨v0, v1, v2, k0, k1, k2, hkn⟩ := hks.at_ hdr
          obtain ⟨hok1, hok2⟩ := okKs_drop hK.out hdr
          have hkeep : ∀ o, wr.cell? ⟨g, o, none⟩ = w.cell? ⟨g, o, none⟩ := fun o => (hBl.out.cell (p := ⟨g, o, none⟩) (by simp only; omega)).trans (HA1.out.cell (p := ⟨g, o, none⟩) (by simp only; omega))
          have c0 := (hkeep _).trans k0
          have c1 := (hkeep _).trans k1
          have c2 := (hkeep _).trans k2
          have HKN := Lib.hid ((hkn.below HA1.out hB).below hBl.out hBW)
          have HSZ := Lib.hid (show sizeN k ≤ m by
            have h1 := sizeN_mem hmem
            have h2 := HS.out
            unfold sizeN at h2
            omega)
          have HT2 := Lib.hid (show writeKs ks [] = match writeN k with | none => none | some x => if 65536 < (acc ++ x).length then none else writeKs r (acc ++ x) by
            rw [← hT.out, hdr, writeKs]
            cases writeN k <;> rfl)
          have HD := Lib.hid hdr1
          have HK1 := Lib.hid hok1
          have HK2 := Lib.hid hok2
          have HSW := Lib.hid hBl.out.size
          obtain ⟨t1, A1, n1, c1', A2, n2, c2', rfl, rfl, rfl⟩ := HKN.out.form
          clear hks k0 k1 k2 hkn hkeep hdr hdr1 hmem hT hok1 hok2
          go_wp2_with fail
          refine Calls.mono (IH.out k [.int .i64 t1, .slice A1 n1 c1', .slice A2 n2 c2'] L B _ HSZ.out HK1.out (by exact HKN.out.alloc (by have := HSW.out; omega) _) (by have := HSW.out; simp; omega)) ?_
          rintro e w2 ⟨V2, b2, rfl, hb2, hyes, hno⟩
          have B2 := Lib.hid (below_then ((Below.refl _ _).alloc (Nat.le_refl _) _) (by simp) hb2)
          have B3 := Lib.hid (below_then hBl.out hBl.out.size B2.out)
          have O2 := Lib.hid (own_below hO.out B2.out)
          clear hb2
          cases hw : writeN k with
          | none =>
            have HT3 := Lib.hid (show writeN (.mk t [] ks) = none by rw [HW.out, HT2.out, hw])
            obtain rfl := hno hw
            clear hw hyes hno
            go_wp2
            go_ret2
            exact WrPost.no HT3.out (below_then HA1.out (by omega) B3.out)
          | some x =>
            obtain ⟨rfl, hox, hxl⟩ := hyes x hw
            rw [hw] at HT2
            obtain ⟨Ax, cx, hVx, hcx, hmx⟩ := own_form hox
            subst hVx
            have OX := Lib.hid hox
            clear hw hyes hno hox
            by_cases hl3 : 65536 < acc.length + x.length
            · have d3 : decide (65536 < ((acc.length : Int) + (x.length : Int))) = true := decide_eq_true (by omega)
              have HT3 := Lib.hid (show writeN (.mk t [] ks) = none by rw [HW.out, HT2.out]; show (match (if 65536 < (acc ++ x).length then none else writeKs r (acc ++ x)) with | none => none | some c => _) = none; rw [if_pos (by rw [List.length_append]; exact hl3)])
              go_wp2_with (first
                | (at_builtin
                   refine wpList_append_rd _ rfl (.tmp 26) (.tmp 27) _ rfl W1.heap.size 5 (.int .u8 0) 1 1 Try.underlying22 info_u8 rfl (by omega) _ _ _ rfl O2.out
                     _ _ Ax x.length cx (nums .u8 x) rfl (by rw [nums_length, Nat.mul_one]) (by exact own_rd OX.out) (nums_one _ _) (by simp only [maxLen]; omega) (by omega) B3.out.size ?_
                   intro v3 w3 hown3 hg3 hat3 hnil3
                   rw [← nums_append] at hown3
                   obtain ⟨A3, c3, hv3, hc3, hm3⟩ := own_form hown3
                   subst hv3
                   have O3 : Hid (OwnB w3 W1.heap.size (.slice A3 (acc.length + x.length) c3) (acc ++ x)) := by unfold OwnB; rw [List.length_append]; exact Lib.hid hown3
                   have B4 := Lib.hid (B3.out.grown hg3 B3.out.size (own_base O2.out))
                   clear hown3 hg3 hat3 hnil3 O2 OX))
              go_ret2
              exact WrPost.no HT3.out (below_then HA1.out (by omega) B4.out)
            · have d3 : decide (65536 < ((acc.length : Int) + (x.length : Int))) = false := decide_eq_false (by omega)
              have HT3 := Lib.hid (show writeKs (ks.drop (q + 1)) (acc ++ x) = writeKs ks [] by rw [HT2.out, HD.out]; show _ = (if 65536 < (acc ++ x).length then none else writeKs r (acc ++ x)); rw [if_neg (by rw [List.length_append]; exact hl3)])
              go_wp2_with (first
                | (at_builtin
                   refine wpList_append_rd _ rfl (.tmp 26) (.tmp 27) _ rfl W1.heap.size 5 (.int .u8 0) 1 1 Try.underlying22 info_u8 rfl (by omega) _ _ _ rfl O2.out
                     _ _ Ax x.length cx (nums .u8 x) rfl (by rw [nums_length, Nat.mul_one]) (by exact own_rd OX.out) (nums_one _ _) (by simp only [maxLen]; omega) (by omega) B3.out.size ?_
                   intro v3 w3 hown3 hg3 hat3 hnil3
                   rw [← nums_append] at hown3
                   obtain ⟨A3, c3, hv3, hc3, hm3⟩ := own_form hown3
                   subst hv3
                   have O3 : Hid (OwnB w3 W1.heap.size (.slice A3 (acc.length + x.length) c3) (acc ++ x)) := by unfold OwnB; rw [List.length_append]; exact Lib.hid hown3
                   have B4 := Lib.hid (B3.out.grown hg3 B3.out.size (own_base O2.out))
                   clear hown3 hg3 hat3 hnil3 O2 OX))
              go_roundw
              case rel => exact ⟨q + 1, acc ++ x, hlt2, by go_num, O3, by rw [List.length_append]; omega, B4, by rw [HD.out]; exact HK2, HT3⟩
              case measure => simp [intOf]; omega
        · obtain rfl : q = ks.length := by omega
          have HT3 : Hid (writeKs ks [] = some acc) := by
            rw [← hT.out, List.drop_length]
            exact Lib.hid rfl
          obtain ⟨Ac, cc, hVc, hcc, hmc⟩ := own_form hO.out
          subst hVc
          have d1 : decide (65536 < (acc.length : Int)) = false := decide_eq_false (by omega)
          have HSW := Lib.hid hBl.out.size
          have hct := (hBl.out.cell (p := ⟨w.heap.size, 0, none⟩) (by simp only; omega)).trans HC1.out
          go_wp2_with fail
          refine Calls.mono (der_headed t acc Ac cc _ _ _ hcc (by omega) (by exact own_rd hO.out) (Nat.le_refl _)) ?_
          rintro e w2 ⟨V2, rfl, hown2, hb2⟩
          have B2 := Lib.hid (below_then hBl.out hBl.out.size hb2)
          obtain ⟨A2, c2, hV2, hc2, hm2⟩ := own_form hown2
          subst hV2
          have O2 := Lib.hid hown2
          clear hb2 hown2
          by_cases hl2 : (headed t acc).length ≤ 65536
          · have HW2 := Lib.hid (show writeN (.mk t [] ks) = some (headed t acc) by rw [HW.out, HT3.out]; simp only; rw [if_neg (by omega), if_pos hl2])
            have d2 : decide (((headed t acc).length : Int) ≤ 65536) = true := decide_eq_true (by omega)
            go_wp2
            go_ret2
            exact WrPost.yes HW2.out (below_then HA1.out (by omega) B2.out) (own_less O2.out (by have := HSW.out; omega)) hl2
          · have HW2 := Lib.hid (show writeN (.mk t [] ks) = none by rw [HW.out, HT3.out]; simp only; rw [if_neg (by omega), if_neg hl2])
            have d2 : decide (((headed t acc).length : Int) ≤ 65536) = false := decide_eq_false (by omega)
            go_wp2
            go_ret2
            exact WrPost.no HW2.out (below_then HA1.out (by omega) B2.out)
end Go.Proofs.Ytanelmmklnpohaa
