/-
  Walk of the law DerWrite: any node is written alike or refused, and what is written is read.
  Conditions: none beyond the walks' own.
-/
import Derived.Test.YtanelmmklnpohaaDer19
namespace Go.Proofs.Ytanelmmklnpohaa
open Go.RowKit
set_option linter.unusedVariables false
set_option linter.unusedSimpArgs false

set_option maxHeartbeats 4000000 in
set_option maxRecDepth 100000 in
theorem law_DerWrite (cs : List Value) (l : List Nat) (A : Option Addr) (c B : Nat) (w : World) (hB : B ≤ w.heap.size) (hin : InN w B 17 cs) (hc : l.length ≤ c) (hcm : c ≤ maxLen) (hd : Dig 256 l) (h : Rd w 0 B A (nums .u8 l)) :
    Calls Try.prog 3 #[.agg cs.toArray, .slice A l.length c] w fun e w' => e = .returned (.bool true) ∧ Below w.heap.size w w' := by
  have H := Lib.hid h
  have HD := Lib.hid hd
  have HIN := Lib.hid hin
  obtain ⟨t, X, nb, xc, X', nk, xc', rfl, hh⟩ := hin.head
  clear h hd hin hh
  have B0 := Lib.hid ((Below.refl w.heap.size w).alloc (Nat.le_refl _) (.cells #[.int .i64 t, .slice X nb xc, .slice X' nk xc'] 25))
  have K0 := Lib.hid (Blk.made (w := w) (v0 := .int .i64 t) (v1 := .slice X nb xc) (v2 := .slice X' nk xc') (t := 25) (g := w.heap.size) rfl)
  have hs0 : (w.alloc (.cells #[.int .i64 t, .slice X nb xc, .slice X' nk xc'] 25)).heap.size = w.heap.size + 1 := by simp
  go_enter Try.func3, Try.ntmps3
  go_wp2_with fail
  generalize w.alloc (.cells #[.int .i64 t, .slice X nb xc, .slice X' nk xc'] 25) = w0 at *
  have S0 := Lib.hid hs0
  clear hs0
  refine Calls.mono (law_begun w0) ?_
  rintro e w1 ⟨rfl, hb1⟩
  have B1 := Lib.hid (below_then B0.out B0.out.size hb1)
  have K1 := Lib.hid (K0.out.below hb1 K0.out.lt)
  have I1 := Lib.hid (HIN.out.keep (w' := w1) (fun p hp => B1.out.cell (by omega)))
  have S1 := Lib.hid (show w.heap.size + 1 ≤ w1.heap.size by have := hb1.size; have := S0.out; omega)
  clear hb1 B0 K0 S0 HIN
  obtain ⟨⟨k0, k1, k2⟩, kf0, kf1, kf2⟩ := K1.out
  go_wp2_with fail
  clear k0 k1 k2 kf0 kf1 kf2
  refine Calls.mono (law_cut I1.out (by have := S1.out; omega)) ?_
  rintro e w2 ⟨n, t1, A1, n1, c1, A2, n2, c2, rfl, hb2, hr2, hn2⟩
  have B2 := Lib.hid (below_set3 (below_then B1.out B1.out.size hb2) (Nat.le_refl _) (.int .i64 t1) (.slice A1 n1 c1) (.slice A2 n2 c2))
  have K2 := Lib.hid (K1.out.below hb2 K1.out.lt)
  have K3 := Lib.hid (K2.out.set3 (.int .i64 t1) (.slice A1 n1 c1) (.slice A2 n2 c2))
  have R3 := Lib.hid (RepN.keep (w' := ((w2.setCell ⟨w.heap.size, 0, none⟩ (.int .i64 t1)).setCell ⟨w.heap.size, 1, none⟩ (.slice A1 n1 c1)).setCell ⟨w.heap.size, 2, none⟩ (.slice A2 n2 c2)) (fun p p1 p2 => cell_set3 (by have := S1.out; omega) _ _ _) hr2)
  have hs3 := size_set3 w2 w.heap.size (.int .i64 t1) (.slice A1 n1 c1) (.slice A2 n2 c2)
  have S2 := Lib.hid (show w.heap.size + 1 ≤ w2.heap.size by have := hb2.size; have := S1.out; omega)
  have DN := Lib.hid hr2.dig
  clear hb2 hr2 B1 K1 I1
  obtain ⟨⟨k0, k1, k2⟩, kf0, kf1, kf2⟩ := K2.out
  go_wp2_with fail
  clear k0 k1 k2 kf0 kf1 kf2
  generalize ((w2.setCell ⟨w.heap.size, 0, none⟩ (.int .i64 t1)).setCell ⟨w.heap.size, 1, none⟩ (.slice A1 n1 c1)).setCell ⟨w.heap.size, 2, none⟩ (.slice A2 n2 c2) = w3 at *
  have S3 := Lib.hid (show w2.heap.size ≤ w3.heap.size by omega)
  have S3w := Lib.hid (show w.heap.size + 1 ≤ w3.heap.size by have := S2.out; omega)
  clear hs3 K2
  -- der.Write
  refine Calls.mono (der_Write R3.out S3.out) ?_
  rintro e w4 ⟨A3, c3, rfl, hc3, hm3, hl3, hr3, hb4⟩
  have B4 := Lib.hid (below_then B2.out B2.out.size hb4)
  have K4 := Lib.hid (K3.out.below hb4 K3.out.lt)
  have R4 := Lib.hid (R3.out.below hb4 S3.out)
  have P4 := Lib.hid hr3
  have S4 := Lib.hid (show w3.heap.size ≤ w4.heap.size from hb4.size)
  clear hb4 hr3 B2 K3 R3
  obtain ⟨⟨k0, k1, k2⟩, kf0, kf1, kf2⟩ := K4.out
  go_wp2_with fail
  clear k0 k1 k2 kf0 kf1 kf2
  -- the reference's Write
  refine Calls.mono (ref_Write R4.out (by have := S4.out; have := S3.out; omega)) ?_
  rintro e w5 ⟨A4, c4, rfl, hc4, hm4, hl4, hr4, hb5⟩
  have B5 := Lib.hid (below_then B4.out B4.out.size hb5)
  have K5 := Lib.hid (K4.out.below hb5 K4.out.lt)
  have R5 := Lib.hid (R4.out.below hb5 (by have := S4.out; have := S3.out; omega))
  have P5 := Lib.hid (P4.out.below hb5 (Nat.le_refl _))
  have Q5 := Lib.hid hr4
  have S5 := Lib.hid (show w4.heap.size ≤ w5.heap.size from hb5.size)
  have S5w := Lib.hid (show w.heap.size + 1 ≤ w5.heap.size by have := S3w.out; have := S4.out; have := hb5.size; omega)
  clear hb5 hr4 B4 K4 R4 P4
  have WR := Lib.hid (fun ch mo (e : WriteN n = some ch) (hm : Dig 256 mo) => write_read e DN.out hm)
  have WC := Lib.hid (fun ch (e : WriteN n = some ch) => write_some e)
  generalize hW : WriteN n = r at *
  have HW := Lib.hid hW
  clear hW
  have hst : Hid (∀ w', Below w5.heap.size w5 w' → (convert 22 9 (.slice A3 (r.getD []).length c3)).run Try.prog w' = .ok (.string (strN (r.getD []))) w' ∧ (convert 22 9 (.slice A4 (r.getD []).length c4)).run Try.prog w' = .ok (.string (strN (r.getD []))) w') :=
    Lib.hid fun w' hb => ⟨conv_rd (P5.out.below hb (by have := S5.out; omega)), conv_rd (Q5.out.below hb (Nat.le_refl _))⟩
  generalize strN (r.getD []) = sb at hst
  obtain ⟨⟨k0, k1, k2⟩, kf0, kf1, kf2⟩ := K5.out
  have e1 : (r.isSome != r.isSome) = false := by simp
  go_upto_region 5 with fail
  go_cut [43] from 27 to 43 (fun v wc => v = .bool false ∧ Hid (Below w5.heap.size w5 wc))
  case first =>
    have C0 := hst.out w5.drew (Below.refl _ _).drew
    go_region_held3 (fun w' => w'.cell? ⟨w.heap.size, 0, none⟩ = some (.int .i64 t1) ∧ w'.cell? ⟨w.heap.size, 1, none⟩ = some (.slice A1 n1 c1) ∧ w'.cell? ⟨w.heap.size, 2, none⟩ = some (.slice A2 n2 c2) ∧ (convert 22 9 (.slice A3 (r.getD []).length c3)).run Try.prog w' = .ok (.string sb) w' ∧ (convert 22 9 (.slice A4 (r.getD []).length c4)).run Try.prog w' = .ok (.string sb) w')
      (first | go_keep | exact ⟨k0, k1, k2, C0.1, C0.2⟩ | exact ⟨y0, y1, y2, C1.1, C1.2⟩ | exact ⟨z0, z1, z2, C2.1, C2.2⟩)
      (first
        | (go_at_call 11
           refine Calls.mono (der_May (w := w5.drew) R5.out.drew (by show w2.heap.size ≤ w5.heap.size; have := S5.out; have := S4.out; have := S3.out; omega)) ?_
           rintro e w6 ⟨rfl, hb6⟩
           have hb6' : Below w5.heap.size w5 w6 := below_then (Below.refl _ _).drew (Nat.le_refl _) hb6
           have C1 := hst.out w6 hb6'
           obtain ⟨⟨y0, y1, y2⟩, yf0, yf1, yf2⟩ := K5.out.below hb6' K5.out.lt)
        | (go_at_call 12
           refine Calls.mono (ref_May (w := w6) (R5.out.below hb6' (by have := S5.out; have := S4.out; have := S3.out; omega)) (by have := hb6'.size; have := S5.out; have := S4.out; have := S3.out; omega)) ?_
           rintro e w7 ⟨rfl, hb7⟩
           have hb7' : Below w5.heap.size w5 w7 := below_then hb6' hb6'.size hb7
           have C2 := hst.out w7 hb7'
           obtain ⟨⟨z0, z1, z2⟩, zf0, zf1, zf2⟩ := K5.out.below hb7' K5.out.lt)
        | fail)
    all_goals
      have HF := Lib.hid hb7'
      clear C0 C1 C2 k0 k1 k2 kf0 kf1 kf2 y0 y1 y2 yf0 yf1 yf2 z0 z1 z2 zf0 zf1 zf2 hb6 hb6' hb7 hb7'
      go_wp2
      go_meet
      case rel => exact ⟨rfl, HF⟩
  case rest =>
    obtain ⟨rfl, HF⟩ := hcut
    have B6 := Lib.hid (below_then B5.out B5.out.size HF.out)
    have K6 := Lib.hid (K5.out.below HF.out K5.out.lt)
    have R6 := Lib.hid (R5.out.below HF.out (by have := S5.out; have := S4.out; have := S3.out; omega))
    have P6 := Lib.hid (P5.out.below HF.out S5.out)
    have S6 := Lib.hid (show w5.heap.size ≤ wc.heap.size from HF.out.size)
    have M6 := Lib.hid (H.out.below B6.out hB)
    clear k0 k1 k2 kf0 kf1 kf2 e1 hst B5 K5 R5 P5 Q5 HF H
    rcases r with _ | ch
    · simp only [Option.isSome_none]
      go_wp2
      go_ret
      exact ⟨rfl, B6.out⟩
    · simp only [Option.isSome_some, Option.getD_some] at *
      have DM := Lib.hid (HD.out.take 20)
      have WRR := Lib.hid (WR.out ch (l.take 20) rfl DM.out)
      have HDC := Lib.hid (show Dig 256 ch by rw [(WC.out ch rfl).1]; exact putN_dig n DN.out (by rw [← (WC.out ch rfl).1]; exact hl3))
      clear WR WC
      have hl20 : min l.length 20 ≤ 20 := by omega
      go_wp2_with (first
        | (at_builtin
           refine wpList_append_rd _ rfl (.const (.slice none 0 0)) (.tmp 47) _ rfl wc.heap.size 5 (.int .u8 0) 1 1 Try.underlying22 info_u8 rfl (by omega) (.slice none 0 0) 0 [] rfl (World.ownsRow_nil _ _ _ _)
             w3.heap.size w4.heap.size A3 ch.length c3 (nums .u8 ch) rfl (by rw [nums_length, Nat.mul_one]) P6.out (nums_one _ _) (by simp only [maxLen]; omega) (by omega) (Nat.le_refl _) ?_
           intro v8 w8 hown8 hg8 hat8 hnil8
           rw [Nat.zero_add, List.nil_append] at hown8
           have hb8 : Below wc.heap.size wc w8 := (Below.refl _ _).grown hg8 (Nat.le_refl _) (fun g e => by simp [Value.ownBlock] at e)
           have O8 := Lib.hid hown8
           have B8 := Lib.hid (below_then B6.out B6.out.size hb8)
           have K8 := Lib.hid (K6.out.below hb8 K6.out.lt)
           have R8 := Lib.hid (R6.out.below hb8 (by have := S6.out; have := S5.out; have := S4.out; have := S3.out; omega))
           have M8 := Lib.hid (M6.out.below hb8 (by have := S6.out; have := S5w.out; omega))
           have S8 := Lib.hid (show wc.heap.size ≤ w8.heap.size from hb8.size)
           clear hown8 hg8 hat8 hnil8 hb8)
        | (go_at_call 13
           refine (law_Short l _ 20 rfl A l.length c 0 B _ rfl hc M8.out).mono ?_
           rintro e w' ⟨rfl, rfl⟩)
        | (at_builtin
           refine wpList_append_rd _ rfl (.tmp 48) (.tmp 50) _ rfl wc.heap.size 5 (.int .u8 0) 1 1 Try.underlying22 info_u8 rfl (by omega) v8 ch.length (nums .u8 ch) rfl O8.out
             0 B A (min l.length 20) c (nums .u8 (l.take 20)) rfl (by rw [nums_length, List.length_take, Nat.mul_one, Nat.min_comm]) (by rw [nums_take]; exact M8.out.take _) (nums_one _ _) (by simp only [maxLen]; omega) (by omega) (S8.out) ?_
           intro v9 w9 hown9 hg9 hat9 hnil9
           rw [← nums_append] at hown9
           have hob9 : ∀ g, v8.ownBlock = some g → wc.heap.size ≤ g := fun g e => (O8.out.lt g e).1
           obtain ⟨A9, c9, rfl, hc9, hm9⟩ := own_form hown9
           have B9 := Lib.hid (B8.out.grown hg9 (B8.out.size) (fun g e => by have := hob9 g e; have := B6.out.size; omega))
           have K9 := Lib.hid (K8.out.grown hg9 (fun e => by have := hob9 _ e.symm; have := S6.out; have := S5w.out; omega))
           have R9 := Lib.hid (R8.out.grown hg9 (by have := S8.out; have := S6.out; have := S5.out; have := S4.out; have := S3.out; omega) (fun g e => by have := hob9 g e; have := S6.out; have := S5.out; have := S4.out; have := S3.out; omega))
           have S9 := Lib.hid (show w8.heap.size ≤ w9.heap.size from hg9.size)
           have O9 := Lib.hid (own_rd hown9)
           clear hown9 hg9 hat9 hnil9 hob9)
        | fail)
      have hbl : (ch ++ l.take 20).length = ch.length + min l.length 20 := by rw [List.length_append, List.length_take, Nat.min_comm]
      rw [← hbl] at hc9
      refine Calls.mono (by have := der_Read (b := ch ++ l.take 20) (c := c9) O9.out (Nat.le_refl _) (by omega) hc9 hm9 (Dig.app.2 ⟨HDC.out, DM.out⟩); rw [hbl] at this; exact this) ?_
      intro e w10 hp
      rw [WRR.out] at hp
      obtain ⟨hb10, t10, A10, n10, c10, A10', n10', c10', rfl, hr10⟩ := hp.node
      simp only [orZero, usedOf, Option.isSome_some] at hr10 ⊢
      clear hp hbl
      have hsa : w9.heap.size ≤ w10.heap.size := hb10.size
      have B10 := Lib.hid ((below_then B9.out B9.out.size hb10).alloc (by have := B9.out.size; omega) (.cells #[.int .i64 t10, .slice A10 n10 c10, .slice A10' n10' c10'] 25))
      have K10 := Lib.hid ((K9.out.below hb10 K9.out.lt).alloc (.cells #[.int .i64 t10, .slice A10 n10 c10, .slice A10' n10' c10'] 25))
      have R10 := Lib.hid ((R9.out.below hb10 (by have := S9.out; have := S8.out; have := S6.out; have := S5.out; have := S4.out; have := S3.out; omega)).alloc (by have := S9.out; have := S8.out; have := S6.out; have := S5.out; have := S4.out; have := S3.out; omega) (.cells #[.int .i64 t10, .slice A10 n10 c10, .slice A10' n10' c10'] 25))
      have RM := Lib.hid (hr10.alloc (Nat.le_refl _) (.cells #[.int .i64 t10, .slice A10 n10 c10, .slice A10' n10' c10'] 25))
      have KM := Lib.hid (Blk.made (w := w10) (v0 := .int .i64 t10) (v1 := .slice A10 n10 c10) (v2 := .slice A10' n10' c10') (t := 25) (g := w10.heap.size) rfl)
      have hs11 : (w10.alloc (.cells #[.int .i64 t10, .slice A10 n10 c10, .slice A10' n10' c10'] 25)).heap.size = w10.heap.size + 1 := by simp
      have S10 := Lib.hid (show w2.heap.size ≤ w10.heap.size by have := S9.out; have := S8.out; have := S6.out; have := S5.out; have := S4.out; have := S3.out; omega)
      clear hb10 hr10 B9 K9 R9 hsa
      obtain ⟨⟨k0, k1, k2⟩, kf0, kf1, kf2⟩ := K10.out
      obtain ⟨⟨m0, m1, m2⟩, mf0, mf1, mf2⟩ := KM.out
      have heq : ((ch.length : Int) == (ch.length : Int)) = true := by simp
      go_wp2_with fail
      generalize w10.alloc (.cells #[.int .i64 t10, .slice A10 n10 c10, .slice A10' n10' c10'] 25) = w11 at *
      have S11 := Lib.hid hs11
      clear hs11 k0 k1 k2 kf0 kf1 kf2 m0 m1 m2 mf0 mf1 mf2
      refine Calls.mono (ref_Eq _ _ _ _ _ _ _ _ w11 (Nat.le_refl _) RM.out R10.out (by have := S11.out; omega) (by have := S11.out; have := S10.out; omega)) ?_
      rintro e w12 ⟨rfl, hb12⟩
      go_wp2
      go_ret
      exact ⟨rfl, below_then B10.out B10.out.size hb12⟩
end Go.Proofs.Ytanelmmklnpohaa
