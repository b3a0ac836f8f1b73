/-
  Walks of der's reference: OID.
  Conditions: none beyond the walks' own.
-/
import Derived.Test.YtanelmmklnpohaaDer13
namespace Go.Proofs.Ytanelmmklnpohaa
open Go.RowKit
set_option linter.unusedVariables false
set_option linter.unusedSimpArgs false

def tailN (a b : Int) (l : List Int) (q : Nat) : List Nat := if q ≤ 1 then dig7 (40 * a + b).toNat ++ (l.drop 2).flatMap fun x => dig7 x.toNat else (l.drop q).flatMap fun x => dig7 x.toNat

set_option maxHeartbeats 2000000 in
set_option maxRecDepth 100000 in
theorem ref_OID {l : List Int} {A : Option Addr} {c L B : Nat} {w : World} (h : Rd w L B A (ints l)) (hB : B ≤ w.heap.size) (hl : l.length ≤ 100000) (hc : l.length ≤ c) (hcm : c ≤ maxLen) :
    Calls Try.prog 23 #[.slice A l.length c] w (OIDPost w (oidN l)) := by
  have H := Lib.hid h
  clear h
  have B1 := Lib.hid ((Below.refl w.heap.size w).alloc (Nat.le_refl _) (.cells #[.int .i64 0, .slice none 0 0, .slice none 0 0] 25))
  by_cases g1 : l.length < 2
  · have HM := Lib.hid (show oidN l = none by
      rcases l with _ | ⟨a, _ | ⟨b, r⟩⟩
      · rfl
      · rfl
      · simp only [List.length_cons] at g1; omega)
    have d1 : decide ((l.length : Int) < 2) = true := decide_eq_true (by omega)
    go_enter Try.func23, Try.ntmps23
    go_wp2
    refine bodyPost_ret (res_cell2 Try.results23 (g := w.heap.size) rfl (Blk.made rfl)) rfl ?_
    exact OIDPost.no HM.out B1.out
  have d1 : decide ((l.length : Int) < 2) = false := decide_eq_false (by omega)
  obtain ⟨b0, off, rfl, hb1, hb2, hcell⟩ := H.out (by rw [ints_length]; omega)
  have hcl : ∀ j, j < l.length → (w.alloc (.cells #[.int .i64 0, .slice none 0 0, .slice none 0 0] 25)).cell? ⟨b0, off + j, none⟩ = some (.int .i64 (l.getD j 0)) := fun j hj => by
    rw [World.cell?_alloc_lt _ _ _ (show b0 < w.heap.size by omega), hcell j (by rw [ints_length]; exact hj)]
    simp [ints, hj]
  have K1 := Lib.hid (Blk.made (w := w) (v0 := .int .i64 0) (v1 := .slice none 0 0) (v2 := .slice none 0 0) (t := 25) (g := w.heap.size) rfl)
  have H1 := Lib.hid (H.out.alloc hB (.cells #[.int .i64 0, .slice none 0 0, .slice none 0 0] 25))
  have hs1 : (w.alloc (.cells #[.int .i64 0, .slice none 0 0, .slice none 0 0] 25)).heap.size = w.heap.size + 1 := by simp
  have c0 := hcl 0 (by omega)
  have c1 := hcl 1 (by omega)
  rw [Nat.add_zero] at c0
  have HCL := Lib.hid hcl
  have hform : l = l.getD 0 0 :: l.getD 1 0 :: l.drop 2 := by
    rcases l with _ | ⟨a, _ | ⟨b, r⟩⟩
    · simp at g1
    · simp at g1
    · rfl
  have HF := Lib.hid (show oidN l = if 2 < l.getD 0 0 ∨ (l.getD 0 0 < 2 ∧ 39 < l.getD 1 0) then none else if l.all okArc then some (dig7 (40 * l.getD 0 0 + l.getD 1 0).toNat ++ (l.drop 2).flatMap fun x => dig7 x.toNat) else none by
    conv => lhs; rw [hform]
    rw [oidN_two, ← hform])
  have HA0 := Lib.hid (fun h : l.all okArc = true => List.all_eq_true.1 h)
  have HM0 : Hid (l.getD 0 0 ∈ l ∧ l.getD 1 0 ∈ l) := Lib.hid ⟨by rw [hform]; simp, by rw [hform]; simp⟩
  clear hcl hcell hform H
  generalize hga : l.getD 0 0 = a at *
  generalize hgb : l.getD 1 0 = b at *
  have HAB := Lib.hid (And.intro hga hgb)
  clear hga hgb
  by_cases g2 : 2 < a
  · have HM := Lib.hid (show oidN l = none by rw [HF.out, if_pos (.inl g2)])
    have d2 : decide (2 < a) = true := decide_eq_true g2
    go_enter Try.func23, Try.ntmps23
    go_wp2
    refine bodyPost_ret (res_cell2 Try.results23 (g := w.heap.size) rfl (Blk.made rfl)) rfl ?_
    exact OIDPost.no HM.out B1.out
  have d2 : decide (2 < a) = false := decide_eq_false g2
  by_cases g3 : a < 2 ∧ 39 < b
  · have HM := Lib.hid (show oidN l = none by rw [HF.out, if_pos (.inr g3)])
    have d3 : decide (a < 2) = true := decide_eq_true g3.1
    have d4 : decide (39 < b) = true := decide_eq_true g3.2
    go_enter Try.func23, Try.ntmps23
    go_wp2
    refine bodyPost_ret (res_cell2 Try.results23 (g := w.heap.size) rfl (Blk.made rfl)) rfl ?_
    exact OIDPost.no HM.out B1.out
  have HF2 := Lib.hid (show oidN l = if l.all okArc then some (dig7 (40 * a + b).toNat ++ (l.drop 2).flatMap fun x => dig7 x.toNat) else none by rw [HF.out, if_neg (by omega)])
  have HG3 := Lib.hid g3
  clear HF
  go_enter Try.func23, Try.ntmps23
  go_upto_region 1 with fail
  go_cut [28] from 8 to 29 (fun t w' => t = .bool false ∧ w' = w.alloc (.cells #[.int .i64 0, .slice none 0 0, .slice none 0 0] 25))
  case first =>
    by_cases g4 : a < 2
    · have d3 : decide (a < 2) = true := decide_eq_true g4
      have d4 : decide (39 < b) = false := decide_eq_false (by omega)
      go_wp2
      go_meet
      exact ⟨rfl, rfl⟩
    · have d3 : decide (a < 2) = false := decide_eq_false g4
      go_wp2
      go_meet
      exact ⟨rfl, rfl⟩
  case rest =>
    obtain ⟨rfl, rfl⟩ := hcut
    generalize w.alloc (.cells #[.int .i64 0, .slice none 0 0, .slice none 0 0] 25) = W1 at *
    go_wp2
    go_loopg [5, 4] (l.length) (fun gg iv V wr => ∃ (q : Nat) (acc : List Nat), q + gg = l.length ∧ iv = .int .i64 q ∧ acc.length ≤ 6 * q ∧ Hid (OwnB wr (w.heap.size + 1) V acc) ∧ Hid (Below w.heap.size w wr) ∧ Hid (w.heap.size + 1 ≤ wr.heap.size) ∧
      Hid (oidN l = if (l.drop q).all okArc then some (acc ++ tailN a b l q) else none) ∧ Hid (0 < q → 0 ≤ a) ∧ Hid (Blk wr w.heap.size (.int .i64 0) (.slice none 0 0) (.slice none 0 0)) ∧
      Hid (∀ j, j < l.length → wr.cell? ⟨b0, off + j, none⟩ = some (.int .i64 (l.getD j 0))))
    case atStart => exact ⟨0, [], by omega, rfl, by simp, World.ownsRow_nil _ _ _ _, B1, Lib.hid (by omega), Lib.hid (by rw [HF2.out, List.drop_zero]; rfl), (fun h => absurd h (by omega)), K1, HCL⟩
    case round =>
      obtain ⟨q, acc, hq, rfl, hal, HO, HB, HS, HT, HA, HK, HC⟩ := hrel
      obtain ⟨A5, c5, hV5, hc5, hm5⟩ := own_form HO.out
      subst hV5
      rcases gk with _ | g'
      · obtain rfl : q = l.length := by omega
        have HM2 := Lib.hid (show oidN l = some acc by
          rw [HT.out, List.drop_length, List.all_nil, if_pos rfl]
          unfold tailN
          rw [if_neg (by omega), List.drop_length]
          simp)
        obtain ⟨⟨k0, k1, k2⟩, kf0, kf1, kf2⟩ := HK.out
        have hdig := Lib.hid (oid_name HM2.out).2.1
        go_wp2
        refine bodyPost_ret (res_cell2 Try.results23 (g := w.heap.size) rfl (HK.out.set3 _ _ _)) rfl ?_
        refine OIDPost.yes HM2.out (below_set3 HB.out (Nat.le_refl _) _ _ _) ?_
        exact RepN.leaf (base := w.heap.size + 1) (by omega) (by rw [size_set3]; have := HS.out; omega) (own_set3 HO.out (by omega) _ _ _) hdig.out (by omega) (fun e => by omega)
      have hqk : q < l.length := by omega
      have hcq := HC.out q hqk
      have HT2 := Lib.hid (show oidN l = if okArc (l.getD q 0) && (l.drop (q + 1)).all okArc then some (acc ++ tailN a b l q) else none by rw [HT.out, all_drop hqk])
      have HV := Lib.hid (rfl : l.getD q 0 = l.getD q 0)
      generalize hgv : l.getD q 0 = v at hcq HT2
      have HV := Lib.hid hgv
      clear hgv HT
      have hlt : (q : Int) < (l.length : Int) := by omega
      have dlt : decide ((q : Int) < (l.length : Int)) = true := decide_eq_true hlt
      by_cases g4 : v < 0
      · have HM := Lib.hid (show oidN l = none by rw [HT2.out]; simp [okArc]; omega)
        have d5 : decide (v < 0) = true := decide_eq_true g4
        obtain ⟨⟨k0, k1, k2⟩, kf0, kf1, kf2⟩ := HK.out
        go_wp2
        refine bodyPost_ret (res_cell2 Try.results23 (g := w.heap.size) rfl (HK.out.set3 _ _ _)) rfl ?_
        exact OIDPost.no HM.out (below_set3 HB.out (Nat.le_refl _) _ _ _)
      have d5 : decide (v < 0) = false := decide_eq_false g4
      by_cases g5 : 268435456 < v
      · have HM := Lib.hid (show oidN l = none by rw [HT2.out]; simp [okArc]; omega)
        have d6 : decide (268435456 < v) = true := decide_eq_true g5
        obtain ⟨⟨k0, k1, k2⟩, kf0, kf1, kf2⟩ := HK.out
        go_wp2
        refine bodyPost_ret (res_cell2 Try.results23 (g := w.heap.size) rfl (HK.out.set3 _ _ _)) rfl ?_
        exact OIDPost.no HM.out (below_set3 HB.out (Nat.le_refl _) _ _ _)
      have d6 : decide (268435456 < v) = false := decide_eq_false g5
      have HT3 := Lib.hid (show oidN l = if (l.drop (q + 1)).all okArc then some (acc ++ tailN a b l q) else none by
        rw [HT2.out]
        have : okArc v = true := by unfold okArc; rw [decide_eq_true (by omega), decide_eq_true (by omega)]; rfl
        rw [this, Bool.true_and])
      clear HT2
      by_cases g6 : q = 0
      · subst g6
        rw [Nat.add_zero] at hcq
        have HA0' := Lib.hid (show 0 ≤ a by have := HAB.out.1; have := HV.out; omega)
        have HT4 := Lib.hid (show oidN l = if (l.drop 1).all okArc then some (acc ++ tailN a b l 1) else none by rw [HT3.out]; rfl)
        go_wp2
        go_roundg g'
        case rel => exact ⟨1, acc, by omega, by go_num, by omega, HO, HB, HS, HT4, (fun _ => HA0'.out), HK, HC⟩
        case measure => omega
      have e1 : ((q : Int) == 0) = false := lit_beq_false (by omega)
      have HA1 := Lib.hid (HA.out (by omega))
      have hc0 := HC.out 0 (by omega)
      rw [Nat.add_zero, HAB.out.1] at hc0
      have hz0 : 0 < l.length := by omega
      have ha2 : a ≤ 2 := by omega
      have ha0 : 0 ≤ a := HA1.out
      obtain ⟨n, hn⟩ : ∃ n : Nat, (n : Int) = if q = 1 then v + 40 * a else v := ⟨(if q = 1 then v + 40 * a else v).toNat, by split <;> omega⟩
      have hnb : n ≤ 268435536 := by split at hn <;> omega
      have HT4 := Lib.hid (show oidN l = if (l.drop (q + 1)).all okArc then some (acc ++ dig7 n ++ tailN a b l (q + 1)) else none by
        rw [HT3.out]
        have : tailN a b l q = dig7 n ++ tailN a b l (q + 1) := by
          unfold tailN
          by_cases h1 : q = 1
          · subst h1
            rw [if_pos rfl] at hn
            have hb := HAB.out.2
            have hv := HV.out
            rw [if_pos (by omega), if_neg (by omega), show (40 * a + b).toNat = n by omega]
          · rw [if_neg h1] at hn
            rw [if_neg (by omega), if_neg (by omega), List.drop_eq_getElem_cons hqk, List.flatMap_cons]
            have hv := HV.out
            have : l[q] = v := by rw [← hv]; simp [hqk]
            rw [this, show v.toNat = n by omega]
        rw [this, List.append_assoc])
      clear HT3
      go_upto_if 56 with fail
      go_cut [6] from 30 to 82 (fun nv w' => nv = .int .i64 (n : Int) ∧ w' = wr)
      case first =>
        by_cases h1 : q = 1
        · subst h1
          rw [if_pos rfl] at hn
          go_wp2
          go_meet
          exact ⟨by rw [hn], rfl⟩
        · rw [if_neg h1] at hn
          have e2 : ((q : Int) == 1) = false := by rw [beq_eq_false_iff_ne]; omega
          go_wp2
          go_meet
          exact ⟨by rw [hn], rfl⟩
      case rest =>
        obtain ⟨rfl, rfl⟩ := hcut
        clear hn hcq hc0 d5 d6 e1 dlt
        have O1 := Lib.hid (show OwnB (wc.alloc (.cells #[.int .u8 ((n % 128 : Nat) : Int)] 5)) wc.heap.size (.slice (some ⟨wc.heap.size, 0, none⟩) 1 1) [n % 128] from own_lit1 wc wc.heap.size 5 _ (Nat.le_refl _))
        have B1' := Lib.hid ((Below.refl wc.heap.size wc).alloc (Nat.le_refl _) (.cells #[.int .u8 ((n % 128 : Nat) : Int)] 5))
        have hmod : (n : Int) % 128 = ((n % 128 : Nat) : Int) := by omega
        have hq7 : (n : Int) / 128 = ((n / 128 : Nat) : Int) := by omega
        have HQ := Lib.hid (show dgl 5 (n / 128) [n % 128] = dig7 n from rfl)
        have HL := Lib.hid (show n / 128 < 128 ^ 5 by omega)
        have hq0 : n / 128 ≤ 268435536 := by omega
        have hd7 := (dig7_len n).1
        generalize dig7 n = d7 at HQ HT4 hd7
        generalize n % 128 = r0 at *
        generalize n / 128 = q0 at *
        go_wp2
        clear hmod hq7
        go_loopg [6, 7] 5 (fun gg mv V wx => ∃ (m : Nat) (ac : List Nat), mv = .int .i64 (m : Int) ∧ m ≤ 268435536 ∧ gg ≤ 5 ∧ m < 128 ^ gg ∧ ac.length + gg ≤ 6 ∧ Hid (OwnB wx wc.heap.size V ac) ∧ Hid (Below wc.heap.size wc wx) ∧ Hid (dgl gg m ac = d7))
        case atStart => exact ⟨q0, [r0], rfl, hq0, by omega, HL.out, by simp, O1, B1', HQ⟩
        case round =>
          obtain ⟨m, ac, rfl, hm, hgk, hmk, hal2, HO2, HB2, HD⟩ := hrel
          obtain ⟨A6, c6, hV6, hc6, hm6⟩ := own_form HO2.out
          subst hV6
          rcases Nat.eq_zero_or_pos m with h0 | h0
          · subst h0
            have HD2 : Hid (ac = d7) := Lib.hid (by rw [← HD.out, dgl_small _ _ _ rfl])
            obtain rfl := HD2.out
            have HO7 := Lib.hid (own_below HO.out HB2.out)
            have HB7 := Lib.hid (below_then HB.out HB.out.size HB2.out)
            have HS7 := Lib.hid (Nat.le_trans HS.out HB2.out.size)
            have HK7 := Lib.hid (HK.out.below HB2.out HK.out.lt)
            have HC7 := Lib.hid (fun j hj => (HB2.out.cell (p := ⟨b0, off + j, none⟩) (show b0 < wc.heap.size by have := HS.out; omega)).trans (HC.out j hj))
            go_wp2_with (at_builtin
                         refine wpList_append_rd _ rfl (.tmp 80) (.tmp 81) _ rfl (w.heap.size + 1) 5 (.int .u8 0) 1 1 Try.underlying22 info_u8 rfl (by omega) (.slice A5 acc.length c5) _ _ rfl HO7.out
                           wc.heap.size wr.heap.size A6 ac.length c6 (nums .u8 ac) rfl (by rw [nums_length, Nat.mul_one]) (by exact own_rd HO2.out) (nums_one _ _) (by simp only [maxLen]; omega) (by omega) HS7.out ?_
                         intro v8 w8 hown8 hg8 hat8 hnil8
                         have HO8 := Lib.hid hown8
                         have HG8 := Lib.hid hg8
                         clear hown8 hg8 hat8 hnil8)
            go_roundg g'
            case rel =>
              have hrow : ∀ g, (Value.slice A5 acc.length c5).ownBlock = some g → w.heap.size + 1 ≤ g := own_base HO7.out
              refine ⟨q + 1, acc ++ ac, by omega, by go_num, by rw [List.length_append]; omega, ?_, ?_, ?_, HT4, ?_, ?_, ?_⟩
              · unfold OwnB; rw [List.length_append, nums_append]; exact HO8
              · exact HB7.out.grown HG8.out (by have := HS7.out; omega) (fun g e => by have := hrow g e; omega)
              · exact Nat.le_trans HS7.out HG8.out.size
              · exact fun _ => HA1.out
              · exact HK7.out.grown HG8.out (fun e => by have := hrow _ e.symm; omega)
              · exact fun j hj => (World.cell?_of_block (w := wr) (a := ⟨b0, off + j, none⟩) (HG8.out.block b0 (by have := HS7.out; omega) (fun e => by have := hrow _ e.symm; omega))).trans (HC7.out j hj)
            case measure => omega
          · obtain ⟨g2, rfl⟩ : ∃ x, gk = x + 1 := ⟨gk - 1, by
              rcases Nat.eq_zero_or_pos gk with e | e
              · subst e; simp at hmk; omega
              · omega⟩
            have hm1 : (m : Int) % 128 = ((m % 128 : Nat) : Int) := by omega
            have hm2 : (128 + ((m % 128 : Nat) : Int)) % 256 = 128 + ((m % 128 : Nat) : Int) := by omega
            have hd : (m : Int) / 128 = ((m / 128 : Nat) : Int) := by omega
            have HD2 := Lib.hid (show dgl g2 (m / 128) ((m % 128 + 128) :: ac) = d7 by rw [← HD.out, dgl, if_neg (by omega), Nat.add_comm 128])
            have hqf2 : m / 128 < 128 ^ g2 := by rw [Nat.pow_succ] at hmk; omega
            have hlt2 : m / 128 < m := by omega
            have d1' : decide (0 < (m : Int)) = true := decide_eq_true (by omega)
            generalize m % 128 = r1 at *
            generalize hq1 : m / 128 = q1 at *
            go_wp2_with (at_builtin
                         refine wpList_append_rd _ rfl (.tmp 77) (.tmp 78) _ rfl wc.heap.size 5 (.int .u8 0) 1 1 Try.underlying22 info_u8 rfl (by omega) (.slice (some ⟨wr.heap.size, 0, none⟩) 1 1) 1 [.int .u8 (128 + (r1 : Int))] rfl (own_lit1 wr wc.heap.size 5 _ HB2.out.size)
                           wc.heap.size wr.heap.size A6 ac.length c6 (nums .u8 ac) rfl (by rw [nums_length, Nat.mul_one]) (by exact (own_rd HO2.out).alloc (Nat.le_refl _) _) (nums_one _ _) (by simp only [maxLen]; omega) (by omega) (by simp; exact Nat.le_succ_of_le HB2.out.size) ?_
                         intro v3 w3 hown3 hg3 hat3 hnil3
                         have HO3 := Lib.hid hown3
                         have HG3 := Lib.hid hg3
                         clear hown3 hg3 hat3 hnil3)
            go_roundg g2
            case rel =>
              refine ⟨q1, (r1 + 128) :: ac, rfl, by omega, by omega, hqf2, by simp; omega, ?_, ?_, HD2⟩
              · have := HO3.out
                unfold OwnB
                rw [List.length_cons, Nat.add_comm ac.length 1]
                have e : (nums .u8 ((r1 + 128) :: ac)) = [.int .u8 (128 + (r1 : Int))] ++ nums .u8 ac := by
                  have : ((r1 + 128 : Nat) : Int) = 128 + (r1 : Int) := by omega
                  simp only [nums, List.map_cons, this]
                  rfl
                rw [e]
                exact this
              · exact (HB2.out.alloc HB2.out.size _).grown HG3.out (by simp; exact Nat.le_succ_of_le HB2.out.size) (fun g e => by simp [Value.ownBlock] at e; have := HB2.out.size; omega)
            case measure => omega
end Go.Proofs.Ytanelmmklnpohaa
