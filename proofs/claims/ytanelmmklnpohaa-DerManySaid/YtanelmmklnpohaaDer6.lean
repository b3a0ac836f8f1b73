/-
  Walks of the reference of der: put, Write.
  Conditions: none beyond the walks' own.
-/
import Derived.Test.YtanelmmklnpohaaDer5
import Derived.Test.YtanelmmklnpohaaNodeLen
namespace Go.Proofs.Ytanelmmklnpohaa
open Go.RowKit
set_option linter.unusedVariables false
set_option linter.unusedSimpArgs false

mutual
theorem RepN.small {w : World} {L B : Nat} : ∀ {n : Nd} {cs : List Value}, RepN w L B n cs → smallN n
  | .mk t b ks, cs, h => by
    unfold RepN at h
    obtain ⟨A, c, A', c', e, h1, h2, h3, h4, hbl, h5, h6, h7, h8⟩ := h
    unfold smallN
    refine ⟨hbl.1, ?_⟩
    rcases Nat.eq_zero_or_pos ks.length with h0 | h0
    · rw [List.eq_nil_of_length_eq_zero h0]; unfold smallKs; trivial
    · obtain ⟨g, off, _, _, _, hk⟩ := h8 h0
      exact RepKs.small hk
theorem RepKs.small {w : World} {L B g : Nat} : ∀ {off : Nat} {ks : List Nd}, RepKs w L B g off ks → smallKs ks
  | _, [], _ => by unfold smallKs; trivial
  | off, k :: r, h => by
    unfold RepKs at h
    obtain ⟨⟨v0, v1, v2, _, _, _, hn⟩, hr⟩ := h
    unfold smallKs
    exact ⟨RepN.small hn, RepKs.small hr⟩
end

def PutPost (w : World) (r : List Nat) (e : Ending) (w' : World) : Prop := ∃ V, e = .returned V ∧ OwnB w' w.heap.size V r ∧ Below w.heap.size w w'
theorem PutPost.mk {w w' : World} {r l : List Nat} {V : Value} (h : r = l) (ho : OwnB w' w.heap.size V l) (hb : Below w.heap.size w w') : PutPost w r (.returned V) w' := by
  subst h
  exact ⟨V, rfl, ho, hb⟩
set_option maxHeartbeats 4000000 in
set_option maxRecDepth 100000 in
theorem ref_put (m : Nat) : ∀ (n : Nd) (cs : List Value) (L B : Nat) (w : World), sizeN n ≤ m → sizeN n ≤ 1024 → RepN w L B n cs → B ≤ w.heap.size →
    Calls Try.prog 31 #[.agg cs.toArray] w (PutPost w (putN n)) := by
  induction m with
  | zero => intro n cs L B w hs; have := sizeN_pos n; omega
  | succ m ih =>
    intro n cs L B w hs hs2 hrep hB
    have hsmall := hrep.small
    have hput := put_len hsmall hs2
    obtain ⟨t, b, ks⟩ := n
    have HSMALL := Lib.hid (show smallKs ks by unfold smallN at hsmall; exact hsmall.2)
    have HS2 := Lib.hid (show 1 + sizeKs ks ≤ 1024 by unfold sizeN at hs2; exact hs2)
    have HKL := Lib.hid (putKs_len HSMALL.out (by have := HS2.out; omega))
    unfold RepN at hrep
    obtain ⟨A, c, A', c', rfl, h1, h2, h3, h4, ⟨hbl, hkl⟩, h5, h6, h7, h8⟩ := hrep
    have IH := Lib.hid ih
    have H8 := Lib.hid h8
    have HS := Lib.hid hs
    have HBX : w.cell? ⟨0, 0, none⟩ = w.cell? ⟨0, 0, none⟩ := rfl
    clear HBX
    have HA := (Below.refl w.heap.size w).alloc (Nat.le_refl _) (.cells #[.int .i64 t, .slice A b.length c, .slice A' ks.length c'] 25)
    have HC0 : (w.alloc (.cells #[.int .i64 t, .slice A b.length c, .slice A' ks.length c'] 25)).cell? ⟨w.heap.size, 0, none⟩ = some (.int .i64 t) := by rw [World.cell?_alloc_at _ _ _ _ rfl]; rfl
    have HC1 : (w.alloc (.cells #[.int .i64 t, .slice A b.length c, .slice A' ks.length c'] 25)).cell? ⟨w.heap.size, 1, none⟩ = some (.slice A b.length c) := by rw [World.cell?_alloc_at _ _ _ _ rfl]; rfl
    have HC2 : (w.alloc (.cells #[.int .i64 t, .slice A b.length c, .slice A' ks.length c'] 25)).cell? ⟨w.heap.size, 2, none⟩ = some (.slice A' ks.length c') := by rw [World.cell?_alloc_at _ _ _ _ rfl]; rfl
    have HSZ1 : (w.alloc (.cells #[.int .i64 t, .slice A b.length c, .slice A' ks.length c'] 25)).heap.size = w.heap.size + 1 := by simp
    clear ih h5 h6 h8 hs hs2 hsmall
    by_cases ht : t = 48
    · subst ht
      have HP := Lib.hid (show putN (.mk 48 b ks) = headed 48 (putKs ks) by unfold putN; rw [if_pos rfl])
      go_enter Try.func31, Try.ntmps31
      go_wp2
      generalize w.alloc (.cells #[.int .i64 48, .slice A b.length c, .slice A' ks.length c'] 25) = W1 at HA HC0 HC1 HC2 HSZ1 ⊢
      have HA1 := Lib.hid HA
      have HC0' := Lib.hid HC0
      have HC2' := Lib.hid HC2
      have hBW : B ≤ W1.heap.size := by omega
      have hwW : w.heap.size < W1.heap.size := by omega
      have HW1 := Lib.hid HSZ1
      clear HA HC0 HC1 HC2 HSZ1 h7
      go_loopw [3, 4] (fun bv i wr => ∃ (q : Nat), q ≤ ks.length ∧ i = .int .i64 q ∧ Hid (OwnB wr W1.heap.size bv (putKs (ks.take q))) ∧ Hid (Below W1.heap.size W1 wr)) (fun bv i _ => ks.length - (intOf i).toNat)
      case atStart => exact ⟨0, Nat.zero_le _, rfl, Lib.hid (World.ownsRow_nil _ _ _ _), Lib.hid (Below.refl _ _)⟩
      case round =>
        obtain ⟨q, hq, rfl, hO, hBl⟩ := hrel
        have hct := (hBl.out.cell (p := ⟨w.heap.size, 2, none⟩) (by simp only; omega)).trans HC2'.out
        rcases Nat.lt_or_ge q ks.length with hlt2 | hge2
        · obtain ⟨g, off, rfl, hg1, hg2, hks⟩ := H8.out (by omega)
          obtain ⟨k, r, hdr, hdr1, hmem⟩ := drop_cons_lt hlt2
          obtain ⟨v0, v1, v2, k0, k1, k2, hkn⟩ := hks.at_ hdr
          have hkeep : ∀ o, wr.cell? ⟨g, o, none⟩ = w.cell? ⟨g, o, none⟩ := fun o => (hBl.out.cell (p := ⟨g, o, none⟩) (by simp only; omega)).trans (HA1.out.cell (p := ⟨g, o, none⟩) (by simp only; omega))
          have c0 := (hkeep _).trans k0
          have c1 := (hkeep _).trans k1
          have c2 := (hkeep _).trans k2
          have HKN := Lib.hid ((hkn.below HA1.out hB).below hBl.out hBW)
          have hmm := sizeN_mem hmem
          have HSZ := Lib.hid (show sizeN k ≤ m ∧ sizeN k ≤ 1024 by
            have h2 := HS.out
            have h3 := HS2.out
            unfold sizeN at h2
            exact ⟨by omega, by omega⟩)
          have HT2 := Lib.hid (putKs_snoc ks q k r hdr)
          have HLE : (putKs (ks.take (q + 1))).length ≤ 1073800000 := Nat.le_trans (putKs_take_le ks (q + 1)) HKL.out
          have hle2 : (putKs (ks.take q)).length + (putN k).length ≤ 1073800000 := by rw [← List.length_append, HT2.out]; exact HLE
          have HSW := Lib.hid hBl.out.size
          obtain ⟨t1, A1, n1, c1', A2, n2, c2', rfl, rfl, rfl⟩ := HKN.out.form
          clear hks k0 k1 k2 hkn hkeep hdr hdr1 hmem hmm HLE
          go_wp2_with fail
          refine Calls.mono (IH.out k [.int .i64 t1, .slice A1 n1 c1', .slice A2 n2 c2'] L B _ HSZ.out.1 HSZ.out.2 (by exact HKN.out) (by have := HSW.out; omega)) ?_
          rintro e w2 ⟨V2, rfl, hox, hb2⟩
          have B3 := Lib.hid (below_then hBl.out hBl.out.size hb2)
          have O2 := Lib.hid (own_below hO.out hb2)
          obtain ⟨Ax, cx, hVx, hcx, hmx⟩ := own_form hox
          subst hVx
          have OX := Lib.hid hox
          clear hb2 hox
          go_wp2_with (first
            | (at_builtin
               refine wpList_append_rd _ rfl (.tmp 27) (.tmp 28) _ rfl W1.heap.size 5 (.int .u8 0) 1 1 Try.underlying22 info_u8 rfl (by omega) _ _ _ rfl O2.out
                 _ _ Ax (putN k).length cx (nums .u8 (putN k)) rfl (by rw [nums_length, Nat.mul_one]) (by exact own_rd OX.out) (nums_one _ _) (by simp only [maxLen]; omega) (by omega) B3.out.size ?_
               intro v3 w3 hown3 hg3 hat3 hnil3
               rw [← nums_append, HT2.out, ← List.length_append, HT2.out] at hown3
               have O3 := Lib.hid hown3
               have B4 := Lib.hid (B3.out.grown hg3 B3.out.size (own_base O2.out))
               clear hown3 hg3 hat3 hnil3 O2 OX))
          go_roundw
          case rel => exact ⟨q + 1, hlt2, by go_num, O3, B4⟩
          case measure => simp [intOf]; omega
        · obtain rfl : q = ks.length := by omega
          have ho := hO.out
          rw [List.take_length] at ho
          obtain ⟨Ac, cc, hVc, hcc, hmc⟩ := own_form ho
          subst hVc
          have HR := Lib.hid (own_rd ho)
          have hct0 := (hBl.out.cell (p := ⟨w.heap.size, 0, none⟩) (by simp only; omega)).trans HC0'.out
          have HLEN : (putKs ks).length ≤ 1073800000 := HKL.out
          generalize hcl : putKs ks = cl at HR HLEN HP hcc ⊢
          have HB0 := Lib.hid (below_then HA1.out (by omega) hBl.out)
          have HRB := Lib.hid (Nat.le_refl wr.heap.size)
          clear hO ho hcl HKL
          obtain ⟨wo, rfl⟩ : ∃ wo : World, wo = wr := ⟨_, rfl⟩
          have O1 := (own_lit1 wo wo.heap.size 5 (.int .u8 48) (Nat.le_refl _))
          have B1 := ((Below.refl wo.heap.size wo).alloc (Nat.le_refl _) (.cells #[.int .u8 48] 5))
          have S1 : (wo.alloc (.cells #[.int .u8 48] 5)).heap.size = wo.heap.size + 1 := by simp
          by_cases h1 : cl.length < 128
          · have d1 : decide ((cl.length : Int) < 128) = true := decide_eq_true (by omega)
            have O1' := Lib.hid O1
            have B1' := Lib.hid B1
            have hS1 := Lib.hid S1
            clear O1 B1 S1
            go_wp2_with (first
              | (at_builtin
                 refine wpList_append_lit (w0 := wo) rfl (.tmp 37) (.tmp 41) _ rfl wo.heap.size 5 (.int .u8 0) 1 Try.underlying22 info_u8 rfl (.slice (some ⟨wo.heap.size, 0, none⟩) 1 1) 1 [.int .u8 48] _ rfl O1'.out
                   (wo.heap.size + 1) rfl (by simp) (by rfl) (by simp only [maxLen]; omega) (by omega) (by simp) B1'.out ?_
                 intro v1 w1 hown1 hbel1 hg1 hat1
                 have hw1 := hbel1.size)
              | (at_builtin
                 refine wpList_append_rd _ rfl (.tmp 65) (.tmp 66) _ rfl wo.heap.size 5 (.int .u8 0) 1 1 Try.underlying22 info_u8 rfl (by omega) v1 _ _ rfl hown1
                   W1.heap.size wo.heap.size Ac cl.length cc (nums .u8 cl) rfl (by rw [nums_length, Nat.mul_one]) (by exact HR.out.below hbel1 HRB.out) (nums_one _ _) (by simp only [maxLen]; omega) (by omega) (by omega) ?_
                 intro v2 w2 hown2 hg2 hat2 hnil2))
            go_ret
            refine PutPost.mk HP.out ?_ (below_then HB0.out HB0.out.size (hbel1.grown hg2 hw1 (own_base hown1)))
            have e : nums .u8 (headed 48 cl) = [.int .u8 48] ++ [.int .u8 (cl.length : Int)] ++ nums .u8 cl := by
              unfold headed lenBytes
              rw [if_pos h1, cast_mod_nat]
              simp [nums]
            unfold OwnB
            rw [e, headed_length, lenBytes_length, if_pos h1]
            exact own_less hown2 HB0.out.size
          · have d1 : decide ((cl.length : Int) < 128) = false := decide_eq_false (by omega)
            obtain ⟨K, hK⟩ : ∃ K, K = (blen cl.length + 7) / 8 := ⟨_, rfl⟩
            have hbl31 : blen cl.length ≤ 31 := blen_le.2 (by omega)
            have hK4 : K ≤ 4 := by omega
            have HK := Lib.hid hK
            clear hK hbl31
            go_wp2
            generalize wo.alloc (.cells #[.int .u8 48] 5) = W2 at O1 B1 S1 ⊢
            have O1' := Lib.hid O1
            have B1' := Lib.hid B1
            have hS1 : wo.heap.size < W2.heap.size := by omega
            clear O1 B1 S1
            go_loopw [7, 8] (fun lv kv wr => ∃ (j kk : Nat), j ≤ K ∧ kk ≤ 2000000000 ∧ kv = .int .i64 kk ∧ Hid (kk = cl.length / 256 ^ j) ∧ Hid (wr.ownsRow W2.heap.size 5 1 lv j (nums .u8 (bebytes j cl.length))) ∧ Hid (Below W2.heap.size W2 wr)) (fun lv kv _ => (intOf kv).toNat)
            case atStart => exact ⟨0, cl.length, Nat.zero_le _, by omega, rfl, Lib.hid (by simp), Lib.hid (World.ownsRow_nil _ _ _ _), Lib.hid (Below.refl _ _)⟩
            case round =>
              obtain ⟨j, kk, hjK, hkk, rfl, hkj, hlo, hwl⟩ := hrel
              obtain ⟨Al, cA, hVl, hcl1, hcl2⟩ := own_form hlo.out
              subst hVl
              rcases Nat.eq_zero_or_pos kk with hk0 | hk0
              · have hjj : j = K := by
                  have h2 := (len_steps cl.length j).1 (by rw [← hkj.out]; exact hk0)
                  rw [← HK.out] at h2
                  omega
                subst hjj
                subst hk0
                have OO := Lib.hid (own_below O1'.out hwl.out)
                have BL := Lib.hid (below_then B1'.out (by omega) hwl.out)
                have RL := Lib.hid (own_rd hlo.out)
                have SL := Lib.hid hwl.out.size
                clear hlo hwl
                go_wp2_with (first
                  | (at_builtin
                     refine wpList_append_lit (w0 := wo) rfl (.tmp 55) (.tmp 60) _ rfl wo.heap.size 5 (.int .u8 0) 1 Try.underlying22 info_u8 rfl (.slice (some ⟨wo.heap.size, 0, none⟩) 1 1) 1 [.int .u8 48] _ rfl OO.out
                       _ rfl rfl (by rfl) (by simp only [maxLen]; omega) (by omega) BL.out.size BL.out ?_
                     intro v5 w5 hown5 hbel5 hg5 hat5
                     have R5 := Lib.hid (RL.out.grown hg5 (Nat.le_refl _) (fun g e => by simp [Value.ownBlock] at e; omega))
                     have S5 := hbel5.size)
                  | (at_builtin
                     refine wpList_append_rd _ rfl (.tmp 62) (.tmp 63) _ rfl wo.heap.size 5 (.int .u8 0) 1 1 Try.underlying22 info_u8 rfl (by omega) v5 _ _ rfl hown5
                       _ _ Al j cA (nums .u8 (bebytes j cl.length)) rfl (by rw [nums_length, Nat.mul_one, bebytes_length]) (by exact R5.out) (nums_one _ _) (by simp only [maxLen]; omega) (by omega) (by omega) ?_
                     intro v6 w6 hown6 hg6 hat6 hnil6
                     have hbel6 := hbel5.grown hg6 S5 (own_base hown5)
                     have S6 := hbel6.size)
                  | (at_builtin
                     refine wpList_append_rd _ rfl (.tmp 65) (.tmp 66) _ rfl wo.heap.size 5 (.int .u8 0) 1 1 Try.underlying22 info_u8 rfl (by omega) v6 _ _ rfl hown6
                       W1.heap.size wo.heap.size Ac cl.length cc (nums .u8 cl) rfl (by rw [nums_length, Nat.mul_one]) (by exact HR.out.below hbel6 HRB.out) (nums_one _ _) (by simp only [maxLen]; omega) (by omega) (by omega) ?_
                     intro v7 w7 hown7 hg7 hat7 hnil7))
                go_ret
                refine PutPost.mk HP.out ?_ (below_then HB0.out HB0.out.size (hbel6.grown hg7 S6 (own_base hown6)))
                have e : nums .u8 (headed 48 cl) = [.int .u8 48] ++ [.int .u8 (128 + (j : Int))] ++ nums .u8 (bebytes j cl.length) ++ nums .u8 cl := by
                  unfold headed
                  rw [lenBytes_ge (by omega), ← HK.out, cast_mod_nat]
                  simp [nums]
                unfold OwnB
                rw [e, headed_length, lenBytes_length, if_neg h1, ← HK.out]
                rw [show 1 + (1 + j) + cl.length = 1 + 1 + j + cl.length from by omega]
                exact own_less hown7 HB0.out.size
              · have hjlt : j + 1 ≤ K := by
                  rcases Nat.lt_or_ge j K with h | h
                  · exact h
                  · have h2 := (len_steps cl.length j).2 (by rw [← HK.out]; exact h)
                    rw [← hkj.out] at h2
                    omega
                have HN : Hid (nums .u8 (bebytes (j + 1) cl.length) = [.int .u8 ((kk : Int) % 256)] ++ nums .u8 (bebytes j cl.length)) := by
                  rw [bebytes_succ, ← hkj.out]
                  simp [nums, Hid]
                have HKJ : Hid (kk / 256 = cl.length / 256 ^ (j + 1)) := by
                  rw [hkj.out, div_pow_succ]
                  exact Lib.hid rfl
                have OL := Lib.hid (own_lit1 wr W2.heap.size 5 (.int .u8 ((kk : Int) % 256)) hwl.out.size)
                have RL := Lib.hid ((own_rd hlo.out).alloc (Nat.le_refl _) (.cells #[.int .u8 ((kk : Int) % 256)] 5))
                have BL := Lib.hid (hwl.out.alloc hwl.out.size (.cells #[.int .u8 ((kk : Int) % 256)] 5))
                clear hlo hwl hkj
                go_wp2_with (first
                  | (at_builtin
                     refine wpList_append_rd _ rfl (.tmp 52) (.tmp 53) _ rfl W2.heap.size 5 (.int .u8 0) 1 1 Try.underlying22 info_u8 rfl (by omega) _ _ _ rfl OL.out
                       _ _ Al j cA (nums .u8 (bebytes j cl.length)) rfl (by rw [nums_length, Nat.mul_one, bebytes_length]) (by exact RL.out) (nums_one _ _) (by simp only [maxLen]; omega) (by omega) BL.out.size ?_
                     intro v5 w5 hown5 hg5 hat5 hnil5
                     rw [← HN.out, Nat.add_comm] at hown5
                     have O5 := Lib.hid hown5
                     have B5 := Lib.hid (BL.out.grown hg5 BL.out.size (own_base OL.out))
                     clear hown5 hg5 hat5 hnil5))
                go_roundw
                case rel => exact ⟨j + 1, kk / 256, hjlt, by omega, by go_num, HKJ, O5, B5⟩
                case measure => simp [intOf]; omega
    · have HP := Lib.hid (show putN (.mk t b ks) = headed t b by unfold putN; rw [if_neg ht])
      have e48 := lit_beq_false ht
      go_enter Try.func31, Try.ntmps31
      go_upto_region 9 with (fail)
      have HR0 := h7.alloc hB (.cells #[.int .i64 t, .slice A b.length c, .slice A' ks.length c'] 25)
      generalize w.alloc (.cells #[.int .i64 t, .slice A b.length c, .slice A' ks.length c'] 25) = wr at HA HC0 HC1 HC2 HSZ1 HR0 ⊢
      have HB0 := Lib.hid HA
      have HR := Lib.hid HR0
      have hct0 := HC0
      have HLEN : b.length ≤ 1073800000 := by omega
      have HRB : Hid (B ≤ wr.heap.size) := Lib.hid (by omega)
      have hwW : w.heap.size < wr.heap.size := by omega
      clear HA HC0 HC1 HC2 HSZ1 h7 HR0 HKL HSMALL
      generalize hcl : b = cl at *
      generalize hAc : A = Ac at *
      generalize hccc : c = cc at *
      clear hcl hAc hccc
      obtain ⟨wo, rfl⟩ : ∃ wo : World, wo = wr := ⟨_, rfl⟩
      have O1 := (own_lit1 wo wo.heap.size 5 (.int .u8 (t % 256)) (Nat.le_refl _))
      have B1 := ((Below.refl wo.heap.size wo).alloc (Nat.le_refl _) (.cells #[.int .u8 (t % 256)] 5))
      have S1 : (wo.alloc (.cells #[.int .u8 (t % 256)] 5)).heap.size = wo.heap.size + 1 := by simp
      by_cases h1 : cl.length < 128
      · have d1 : decide ((cl.length : Int) < 128) = true := decide_eq_true (by omega)
        have O1' := Lib.hid O1
        have B1' := Lib.hid B1
        have hS1 := Lib.hid S1
        clear O1 B1 S1
        go_wp2_with (first
          | (at_builtin
             refine wpList_append_lit (w0 := wo) rfl (.tmp 37) (.tmp 41) _ rfl wo.heap.size 5 (.int .u8 0) 1 Try.underlying22 info_u8 rfl (.slice (some ⟨wo.heap.size, 0, none⟩) 1 1) 1 [.int .u8 (t % 256)] _ rfl O1'.out
               (wo.heap.size + 1) rfl (by simp) (by rfl) (by simp only [maxLen]; omega) (by omega) (by simp) B1'.out ?_
             intro v1 w1 hown1 hbel1 hg1 hat1
             have hw1 := hbel1.size)
          | (at_builtin
             refine wpList_append_rd _ rfl (.tmp 65) (.tmp 66) _ rfl wo.heap.size 5 (.int .u8 0) 1 1 Try.underlying22 info_u8 rfl (by omega) v1 _ _ rfl hown1
               L B Ac cl.length cc (nums .u8 cl) rfl (by rw [nums_length, Nat.mul_one]) (by exact HR.out.below hbel1 HRB.out) (nums_one _ _) (by simp only [maxLen]; omega) (by omega) (by omega) ?_
             intro v2 w2 hown2 hg2 hat2 hnil2))
        go_ret
        refine PutPost.mk HP.out ?_ (below_then HB0.out HB0.out.size (hbel1.grown hg2 hw1 (own_base hown1)))
        have e : nums .u8 (headed t cl) = [.int .u8 (t % 256)] ++ [.int .u8 (cl.length : Int)] ++ nums .u8 cl := by
          unfold headed lenBytes
          rw [if_pos h1, cast_mod_nat]
          simp [nums]
        unfold OwnB
        rw [e, headed_length, lenBytes_length, if_pos h1]
        exact own_less hown2 HB0.out.size
      · have d1 : decide ((cl.length : Int) < 128) = false := decide_eq_false (by omega)
        obtain ⟨K, hK⟩ : ∃ K, K = (blen cl.length + 7) / 8 := ⟨_, rfl⟩
        have hbl31 : blen cl.length ≤ 31 := blen_le.2 (by omega)
        have hK4 : K ≤ 4 := by omega
        have HK := Lib.hid hK
        clear hK hbl31
        go_wp2
        generalize wo.alloc (.cells #[.int .u8 (t % 256)] 5) = W2 at O1 B1 S1 ⊢
        have O1' := Lib.hid O1
        have B1' := Lib.hid B1
        have hS1 : wo.heap.size < W2.heap.size := by omega
        clear O1 B1 S1
        go_loopw [7, 8] (fun lv kv wr => ∃ (j kk : Nat), j ≤ K ∧ kk ≤ 2000000000 ∧ kv = .int .i64 kk ∧ Hid (kk = cl.length / 256 ^ j) ∧ Hid (wr.ownsRow W2.heap.size 5 1 lv j (nums .u8 (bebytes j cl.length))) ∧ Hid (Below W2.heap.size W2 wr)) (fun lv kv _ => (intOf kv).toNat)
        case atStart => exact ⟨0, cl.length, Nat.zero_le _, by omega, rfl, Lib.hid (by simp), Lib.hid (World.ownsRow_nil _ _ _ _), Lib.hid (Below.refl _ _)⟩
        case round =>
          obtain ⟨j, kk, hjK, hkk, rfl, hkj, hlo, hwl⟩ := hrel
          obtain ⟨Al, cA, hVl, hcl1, hcl2⟩ := own_form hlo.out
          subst hVl
          rcases Nat.eq_zero_or_pos kk with hk0 | hk0
          · have hjj : j = K := by
              have h2 := (len_steps cl.length j).1 (by rw [← hkj.out]; exact hk0)
              rw [← HK.out] at h2
              omega
            subst hjj
            subst hk0
            have OO := Lib.hid (own_below O1'.out hwl.out)
            have BL := Lib.hid (below_then B1'.out (by omega) hwl.out)
            have RL := Lib.hid (own_rd hlo.out)
            have SL := Lib.hid hwl.out.size
            clear hlo hwl
            go_wp2_with (first
              | (at_builtin
                 refine wpList_append_lit (w0 := wo) rfl (.tmp 55) (.tmp 60) _ rfl wo.heap.size 5 (.int .u8 0) 1 Try.underlying22 info_u8 rfl (.slice (some ⟨wo.heap.size, 0, none⟩) 1 1) 1 [.int .u8 (t % 256)] _ rfl OO.out
                   _ rfl rfl (by rfl) (by simp only [maxLen]; omega) (by omega) BL.out.size BL.out ?_
                 intro v5 w5 hown5 hbel5 hg5 hat5
                 have R5 := Lib.hid (RL.out.grown hg5 (Nat.le_refl _) (fun g e => by simp [Value.ownBlock] at e; omega))
                 have S5 := hbel5.size)
              | (at_builtin
                 refine wpList_append_rd _ rfl (.tmp 62) (.tmp 63) _ rfl wo.heap.size 5 (.int .u8 0) 1 1 Try.underlying22 info_u8 rfl (by omega) v5 _ _ rfl hown5
                   _ _ Al j cA (nums .u8 (bebytes j cl.length)) rfl (by rw [nums_length, Nat.mul_one, bebytes_length]) (by exact R5.out) (nums_one _ _) (by simp only [maxLen]; omega) (by omega) (by omega) ?_
                 intro v6 w6 hown6 hg6 hat6 hnil6
                 have hbel6 := hbel5.grown hg6 S5 (own_base hown5)
                 have S6 := hbel6.size)
              | (at_builtin
                 refine wpList_append_rd _ rfl (.tmp 65) (.tmp 66) _ rfl wo.heap.size 5 (.int .u8 0) 1 1 Try.underlying22 info_u8 rfl (by omega) v6 _ _ rfl hown6
                   L B Ac cl.length cc (nums .u8 cl) rfl (by rw [nums_length, Nat.mul_one]) (by exact HR.out.below hbel6 HRB.out) (nums_one _ _) (by simp only [maxLen]; omega) (by omega) (by omega) ?_
                 intro v7 w7 hown7 hg7 hat7 hnil7))
            go_ret
            refine PutPost.mk HP.out ?_ (below_then HB0.out HB0.out.size (hbel6.grown hg7 S6 (own_base hown6)))
            have e : nums .u8 (headed t cl) = [.int .u8 (t % 256)] ++ [.int .u8 (128 + (j : Int))] ++ nums .u8 (bebytes j cl.length) ++ nums .u8 cl := by
              unfold headed
              rw [lenBytes_ge (by omega), ← HK.out, cast_mod_nat]
              simp [nums]
            unfold OwnB
            rw [e, headed_length, lenBytes_length, if_neg h1, ← HK.out]
            rw [show 1 + (1 + j) + cl.length = 1 + 1 + j + cl.length from by omega]
            exact own_less hown7 HB0.out.size
          · have hjlt : j + 1 ≤ K := by
              rcases Nat.lt_or_ge j K with h | h
              · exact h
              · have h2 := (len_steps cl.length j).2 (by rw [← HK.out]; exact h)
                rw [← hkj.out] at h2
                omega
            have HN : Hid (nums .u8 (bebytes (j + 1) cl.length) = [.int .u8 ((kk : Int) % 256)] ++ nums .u8 (bebytes j cl.length)) := by
              rw [bebytes_succ, ← hkj.out]
              simp [nums, Hid]
            have HKJ : Hid (kk / 256 = cl.length / 256 ^ (j + 1)) := by
              rw [hkj.out, div_pow_succ]
              exact Lib.hid rfl
            have OL := Lib.hid (own_lit1 wr W2.heap.size 5 (.int .u8 ((kk : Int) % 256)) hwl.out.size)
            have RL := Lib.hid ((own_rd hlo.out).alloc (Nat.le_refl _) (.cells #[.int .u8 ((kk : Int) % 256)] 5))
            have BL := Lib.hid (hwl.out.alloc hwl.out.size (.cells #[.int .u8 ((kk : Int) % 256)] 5))
            clear hlo hwl hkj
            go_wp2_with (first
              | (at_builtin
                 refine wpList_append_rd _ rfl (.tmp 52) (.tmp 53) _ rfl W2.heap.size 5 (.int .u8 0) 1 1 Try.underlying22 info_u8 rfl (by omega) _ _ _ rfl OL.out
                   _ _ Al j cA (nums .u8 (bebytes j cl.length)) rfl (by rw [nums_length, Nat.mul_one, bebytes_length]) (by exact RL.out) (nums_one _ _) (by simp only [maxLen]; omega) (by omega) BL.out.size ?_
                 intro v5 w5 hown5 hg5 hat5 hnil5
                 rw [← HN.out, Nat.add_comm] at hown5
                 have O5 := Lib.hid hown5
                 have B5 := Lib.hid (BL.out.grown hg5 BL.out.size (own_base OL.out))
                 clear hown5 hg5 hat5 hnil5))
            go_roundw
            case rel => exact ⟨j + 1, kk / 256, hjlt, by omega, by go_num, HKJ, O5, B5⟩
            case measure => simp [intOf]; omega
end Go.Proofs.Ytanelmmklnpohaa
