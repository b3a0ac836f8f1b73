/-
  Walks of the reference of der: content, count, May.
  Conditions: none beyond the walks' own.
-/
import Derived.Test.YtanelmmklnpohaaDer4
namespace Go.Proofs.Ytanelmmklnpohaa
open Go.RowKit
set_option linter.unusedVariables false
set_option linter.unusedSimpArgs false

theorem nameFrom_last : ∀ (l : List Nat) (s : Bool), 0 < l.length → nameFrom s l = true → l.getD (l.length - 1) 0 < 128
  | [], s, h, _ => by simp at h
  | [x], s, _, h => by
    unfold nameFrom at h
    split at h
    · cases h
    · simpa [nameFrom] using h
  | x :: y :: r, s, _, h => by
    unfold nameFrom at h
    split at h
    · cases h
    · have := nameFrom_last (y :: r) _ (by simp) h
      simpa using this
/-- Does a number begin at place k? -/
def begAt (l : List Nat) (k : Nat) : Bool := decide (k = 0) || decide (l.getD (k - 1) 0 < 128)

set_option maxHeartbeats 1000000 in
theorem ref_content (t : Int) (l : List Nat) (A : Option Addr) (c L B : Nat) (w : World) (hl : l.length ≤ 1048576) (hc : l.length ≤ c) (h : Rd w L B A (nums .u8 l)) :
    Calls Try.prog 49 #[.int .i64 t, .slice A l.length c] w fun e w' => e = .returned (.bool (plainB t l)) ∧ w = w' := by
  have H := Lib.hid h
  clear h
  by_cases h2 : t = 2
  · subst h2
    rcases Nat.eq_zero_or_pos l.length with h0 | h0
    · have HE : Hid (plainB 2 l = false) := by simp [plainB, h0, Hid]
      have d0 : decide (0 < (l.length : Int)) = false := decide_eq_false (by omega)
      have d1 : decide (0 < l.length) = false := decide_eq_false (by omega)
      clear h0
      go_enter Try.func49, Try.ntmps49
      go_wp2
      go_ret
      exact ⟨by rw [HE.out]; rfl, rfl⟩
    · obtain ⟨b, off, rfl, _, _, hcell⟩ := H.out.num h0
      have c0 := hcell 0 h0
      rw [Nat.add_zero] at c0
      have HE : Hid (plainB 2 l = (decide (l.getD 0 0 < 128) && (decide (0 < l.getD 0 0) || (decide (l.length = 1) || decide (128 ≤ l.getD 1 0))))) := by simp [plainB, h0, Hid]
      have d0 : decide (0 < (l.length : Int)) = true := decide_eq_true (by omega)
      by_cases hx : l.getD 0 0 < 128
      · by_cases hx0 : 0 < l.getD 0 0
        · have HR := Lib.hid (show plainB 2 l = true by rw [HE.out]; simp only [hx, hx0, decide_true, Bool.true_or, Bool.and_self])
          clear hcell HE
          generalize l.getD 0 0 = x at c0 hx hx0
          have d1 : decide ((x : Int) < 128) = true := decide_eq_true (by omega)
          have d2 : ((x : Int) != 0) = true := by rw [bne_iff_ne]; omega
          go_enter Try.func49, Try.ntmps49
          go_wp2
          go_ret
          exact ⟨by rw [HR.out]; rfl, rfl⟩
        · by_cases h1 : l.length = 1
          · have HR := Lib.hid (show plainB 2 l = true by rw [HE.out]; simp only [hx, h1, decide_true, Bool.true_or, Bool.or_true, Bool.and_self])
            have d3 : ((l.length : Int) == 1) = true := by rw [beq_iff_eq]; omega
            clear hcell HE h1
            generalize l.getD 0 0 = x at c0 hx hx0
            obtain rfl : x = 0 := by omega
            have d2 : ((0 : Int) != 0) = false := by simp
            go_enter Try.func49, Try.ntmps49
            go_wp2
            go_ret
            exact ⟨by rw [HR.out]; rfl, rfl⟩
          · have c1 := hcell 1 (by omega)
            have HR := Lib.hid (show plainB 2 l = decide (128 ≤ l.getD 1 0) by rw [HE.out]; simp only [hx, hx0, h1, decide_true, decide_false, Bool.false_or, Bool.true_and])
            have d3 : ((l.length : Int) == 1) = false := lit_beq_false (by omega)
            have hl1 : 1 < l.length := by omega
            clear hcell HE h1
            generalize l.getD 0 0 = x at c0 hx hx0
            generalize l.getD 1 0 = y at c1 HR
            obtain rfl : x = 0 := by omega
            go_enter Try.func49, Try.ntmps49
            go_wp2
            go_ret
            exact ⟨by rw [HR.out]; exact ret_bool (by simp; omega), rfl⟩
      · have HR := Lib.hid (show plainB 2 l = false by rw [HE.out]; simp only [hx, decide_false, Bool.false_and])
        clear hcell HE
        generalize l.getD 0 0 = x at c0 hx
        have d1 : decide ((x : Int) < 128) = false := decide_eq_false (by omega)
        go_enter Try.func49, Try.ntmps49
        go_wp2
        go_ret
        exact ⟨by rw [HR.out]; rfl, rfl⟩
  have e2 := lit_beq_false h2
  by_cases h3 : t = 3
  · subst h3
    rcases Nat.eq_zero_or_pos l.length with h0 | h0
    · have HE : Hid (plainB 3 l = false) := by simp [plainB, h0, Hid]
      have d0 : decide (0 < (l.length : Int)) = false := decide_eq_false (by omega)
      have d1 : decide (0 < l.length) = false := decide_eq_false (by omega)
      clear h0
      go_enter Try.func49, Try.ntmps49
      go_wp2
      go_ret
      exact ⟨by rw [HE.out]; rfl, rfl⟩
    · obtain ⟨b, off, rfl, _, _, hcell⟩ := H.out.num h0
      have c0 := hcell 0 h0
      rw [Nat.add_zero] at c0
      have HE : Hid (plainB 3 l = decide (l.getD 0 0 = 0)) := by simp [plainB, h0, Hid]
      have d0 : decide (0 < (l.length : Int)) = true := decide_eq_true (by omega)
      clear hcell
      generalize l.getD 0 0 = x at c0 HE
      go_enter Try.func49, Try.ntmps49
      go_wp2
      go_ret
      exact ⟨by rw [HE.out]; exact ret_bool (by rw [Bool.eq_iff_iff]; simp), rfl⟩
  have e3 := lit_beq_false h3
  by_cases h5 : t = 5
  · subst h5
    have HE : Hid (plainB 5 l = decide (l.length = 0)) := by simp [plainB, Hid]
    go_enter Try.func49, Try.ntmps49
    go_wp2
    go_ret
    exact ⟨by rw [HE.out]; exact ret_bool (by rw [Bool.eq_iff_iff]; simp), rfl⟩
  have e5 := lit_beq_false h5
  by_cases h4 : t = 4
  · subst h4
    have HE : Hid (plainB 4 l = true) := by simp [plainB, Hid]
    go_enter Try.func49, Try.ntmps49
    go_wp2
    go_ret
    exact ⟨by rw [HE.out]; rfl, rfl⟩
  have e4 := lit_beq_false h4
  by_cases h6 : t = 6
  · subst h6
    have HE : Hid (plainB 6 l = nameB l) := by simp [plainB, Hid]
    rcases Nat.eq_zero_or_pos l.length with h0 | h0
    · have HR := Lib.hid (show plainB 6 l = false by rw [HE.out]; simp [nameB, h0])
      have d0 : ((l.length : Int) == 0) = true := by rw [beq_iff_eq]; omega
      clear h0
      go_enter Try.func49, Try.ntmps49
      go_wp2
      go_ret
      exact ⟨by rw [HR.out]; rfl, rfl⟩
    · have d0 : ((l.length : Int) == 0) = false := lit_beq_false (by omega)
      obtain ⟨b, off, rfl, _, _, hcell⟩ := H.out.num h0
      have c1 := hcell (l.length - 1) (by omega)
      clear hcell
      by_cases hx : 128 ≤ l.getD (l.length - 1) 0
      · have HR := Lib.hid (show plainB 6 l = false by
          rw [HE.out]
          cases hn : nameB l with
          | false => rfl
          | true =>
            unfold nameB at hn
            simp only [Bool.and_eq_true] at hn
            have := nameFrom_last l true h0 hn.2
            omega)
        generalize l.getD (l.length - 1) 0 = x at c1 hx
        have d1 : decide (128 ≤ (x : Int)) = true := decide_eq_true (by omega)
        go_enter Try.func49, Try.ntmps49
        go_wp2
        go_ret
        exact ⟨by rw [HR.out]; rfl, rfl⟩
      · have HLAST : Hid (∃ y, l.getD (l.length - 1) 0 = y ∧ y < 128) := Lib.hid ⟨_, rfl, by omega⟩
        have HX : Hid (l.getD (l.length - 1) 0 < 128) := Lib.hid (by omega)
        generalize l.getD (l.length - 1) 0 = x at c1 hx
        have d1 : decide (128 ≤ (x : Int)) = false := decide_eq_false (by omega)
        have HXX : Hid (∃ y, l.getD (l.length - 1) 0 = y ∧ y < 128) := HLAST
        clear hx HX HLAST
        go_enter Try.func49, Try.ntmps49
        go_wp2
        go_loop [6] (fun i => ∃ k : Nat, k ≤ l.length ∧ i = .int .i64 k ∧ Hid (nameFrom (begAt l k) (l.drop k) = nameFrom true l)) (fun i => l.length - (intOf i).toNat)
        case atStart => exact ⟨0, Nat.zero_le _, rfl, Lib.hid rfl⟩
        case round =>
          obtain ⟨k, hk, rfl, hT⟩ := hrel
          rcases Nat.lt_or_ge k l.length with hlt | hge
          · obtain ⟨b', off', e', _, _, hcell⟩ := H.out.num hlt
            obtain ⟨rfl, rfl⟩ : b' = b ∧ off' = off := by
              injection e' with e'
              injection e' with e1 e2
              exact ⟨e1.symm, e2.symm⟩
            have hy := hcell k hlt
            have E : Hid (nameFrom (begAt l k) (l.drop k) = if begAt l k && decide (l.getD k 0 = 128) then false else nameFrom (decide (l.getD k 0 < 128)) (l.drop (k + 1))) := by
              rw [List.drop_eq_getElem_cons hlt, List.getD_eq_getElem?_getD, List.getElem?_eq_getElem hlt]
              exact Lib.hid rfl
            have E2 : Hid (begAt l (k + 1) = decide (l.getD k 0 < 128)) := by simp [begAt, Hid]
            by_cases hy128 : l.getD k 0 = 128
            · rcases Nat.eq_zero_or_pos k with hk0 | hk0
              · subst hk0
                have HR := Lib.hid (show plainB 6 l = false by
                  rw [HE.out]; unfold nameB; rw [← hT.out, E.out, hy128]; simp [begAt])
                rw [hy128, Nat.add_zero] at hy
                clear hcell E E2 hT hy128
                go_wp2
                go_ret
                exact ⟨by rw [HR.out]; rfl, rfl⟩
              · have hz := hcell (k - 1) (by omega)
                have k0 : ((k : Int) == 0) = false := lit_beq_false (by omega)
                by_cases hz128 : l.getD (k - 1) 0 < 128
                · have HR := Lib.hid (show plainB 6 l = false by
                    rw [HE.out]; unfold nameB; rw [← hT.out, E.out, hy128]; simp only [begAt, hz128, decide_true, Bool.or_true, Bool.true_and, if_true, Bool.and_false])
                  rw [hy128] at hy
                  clear hcell E E2 hT hy128
                  generalize l.getD (k - 1) 0 = z at hz hz128
                  have d2 : decide ((z : Int) < 128) = true := decide_eq_true (by omega)
                  go_wp2
                  go_ret
                  exact ⟨by rw [HR.out]; rfl, rfl⟩
                · have F : Hid (nameFrom (begAt l (k + 1)) (l.drop (k + 1)) = nameFrom true l) := by
                    rw [← hT.out, E.out, E2.out]
                    have e0 : begAt l k = false := by unfold begAt; rw [decide_eq_false (by omega), decide_eq_false hz128]; rfl
                    rw [e0]
                    exact Lib.hid rfl
                  rw [hy128] at hy
                  clear hcell E E2 hT hy128
                  generalize l.getD (k - 1) 0 = z at hz hz128
                  have d2 : decide ((z : Int) < 128) = false := decide_eq_false (by omega)
                  go_wp2
                  go_round
                  case rel => exact ⟨k + 1, by omega, by go_num, F⟩
                  case measure => simp [intOf]; omega
            · have F : Hid (nameFrom (begAt l (k + 1)) (l.drop (k + 1)) = nameFrom true l) := by
                rw [← hT.out, E.out, E2.out, decide_eq_false hy128, Bool.and_false]
                exact Lib.hid rfl
              clear hcell E E2 hT
              generalize l.getD k 0 = y at hy hy128
              have d2 : ((y : Int) == 128) = false := lit_beq_false (by omega)
              clear hy128
              go_wp2
              go_round
              case rel => exact ⟨k + 1, by omega, by go_num, F⟩
              case measure => simp [intOf]; omega
          · obtain rfl : k = l.length := by omega
            have HR := Lib.hid (show plainB 6 l = true by
              rw [HE.out]; unfold nameB; rw [← hT.out, List.drop_length]
              obtain ⟨y, hy1, hy2⟩ := HXX.out
              have e0 : begAt l l.length = true := by unfold begAt; rw [hy1, decide_eq_true hy2, Bool.or_true]
              rw [e0, decide_eq_true h0]
              rfl)
            go_wp2
            go_ret
            exact ⟨by rw [HR.out]; rfl, rfl⟩
  have e6 := lit_beq_false h6
  have HE := Lib.hid (plainB_other (b := l) h2 h3 h4 h5 h6)
  clear h2 h3 h4 h5 h6
  go_enter Try.func49, Try.ntmps49
  go_wp2
  go_ret
  exact ⟨by rw [HE.out]; rfl, rfl⟩

/-! ### count -/
def CntPost (w : World) (r : Int) (e : Ending) (w' : World) : Prop := e = .returned (.int .i64 r) ∧ Below w.heap.size w w'
theorem CntPost.mk {w w' : World} {r r' : Int} (h : r = r') (hb : Below w.heap.size w w') : CntPost w r (.returned (.int .i64 r')) w' := by
  subst h
  exact ⟨rfl, hb⟩
set_option maxHeartbeats 1000000 in
theorem ref_count (m : Nat) : ∀ (n : Nd) (cs : List Value) (d : Nat) (D : Int) (L B : Nat) (w : World), D = (d : Int) → sizeN n ≤ m → d ≤ 100 → RepN w L B n cs → B ≤ w.heap.size →
    Calls Try.prog 33 #[.agg cs.toArray, .int .i64 D] w (CntPost w (countN n d)) := by
  induction m with
  | zero => intro n cs d D L B w _ hs; have := sizeN_pos n; omega
  | succ m ih =>
    intro n cs d D L B w hD hs hd hrep hB
    subst hD
    obtain ⟨t, b, ks⟩ := n
    unfold RepN at hrep
    obtain ⟨A, c, A', c', rfl, h1, h2, h3, h4, ⟨hbl, hkl⟩, h5, h6, h7, h8⟩ := hrep
    have IH := Lib.hid ih
    have H7 := Lib.hid h7
    have H8 := Lib.hid h8
    have HS := Lib.hid hs
    clear ih h5 h6 h7 h8 hs
    have HA := Lib.hid ((Below.refl w.heap.size w).alloc (Nat.le_refl _) (.cells #[.int .i64 t, .slice A b.length c, .slice A' ks.length c'] 25))
    by_cases g2 : 16 < d
    · have HM := Lib.hid (show countN (.mk t b ks) d = -1 by unfold countN; rw [if_pos g2])
      have d2 : decide (16 < (d : Int)) = true := decide_eq_true (by omega)
      go_enter Try.func33, Try.ntmps33
      go_wp2
      go_ret
      exact CntPost.mk HM.out HA.out
    have d2 : decide (16 < (d : Int)) = false := decide_eq_false (by omega)
    by_cases g3 : t ≠ 48
    · have d3 : (t != 48) = true := by rw [bne_iff_ne]; exact g3
      by_cases g4 : 0 < ks.length
      · have HM := Lib.hid (show countN (.mk t b ks) d = -1 by unfold countN; rw [if_neg g2, if_pos g3, if_pos (.inl g4)])
        have d4 : decide (0 < (ks.length : Int)) = true := decide_eq_true (by omega)
        clear g2 g3
        go_enter Try.func33, Try.ntmps33
        go_wp2
        go_ret
        exact CntPost.mk HM.out HA.out
      · have HM := Lib.hid (show countN (.mk t b ks) d = if plainB t b = false then -1 else 1 by unfold countN; rw [if_neg g2, if_pos g3]; simp only [g4, false_or])
        have d4 : decide (0 < (ks.length : Int)) = false := decide_eq_false (by omega)
        have d5 : decide (0 < ks.length) = false := decide_eq_false (by omega)
        clear g2 g3 g4
        cases hp : plainB t b with
        | false =>
          have HP := Lib.hid hp
          have HM2 := Lib.hid (show countN (.mk t b ks) d = -1 by rw [HM.out, hp]; rfl)
          clear hp
          go_enter Try.func33, Try.ntmps33
          go_wp2_with (go_at_call 49; refine (ref_content t b A c L B _ hbl h1 (by exact H7.out.alloc hB _)).mono ?_; rintro e w' ⟨rfl, rfl⟩; rw [HP.out])
          go_ret
          exact CntPost.mk HM2.out HA.out
        | true =>
          have HP := Lib.hid hp
          have HM2 := Lib.hid (show countN (.mk t b ks) d = 1 by rw [HM.out, hp]; rfl)
          clear hp
          go_enter Try.func33, Try.ntmps33
          go_wp2_with (go_at_call 49; refine (ref_content t b A c L B _ hbl h1 (by exact H7.out.alloc hB _)).mono ?_; rintro e w' ⟨rfl, rfl⟩; rw [HP.out])
          go_ret
          exact CntPost.mk HM2.out HA.out
    have d3 : (t != 48) = false := by simp; omega
    by_cases g4 : 0 < b.length
    · have HM := Lib.hid (show countN (.mk t b ks) d = -1 by unfold countN; rw [if_neg g2, if_neg g3, if_pos g4])
      have d4 : decide (0 < (b.length : Int)) = true := decide_eq_true (by omega)
      clear g2 g3
      go_enter Try.func33, Try.ntmps33
      go_wp2
      go_ret
      exact CntPost.mk HM.out HA.out
    have d4 : decide (0 < (b.length : Int)) = false := decide_eq_false (by omega)
    have d5 : decide (0 < b.length) = false := decide_eq_false (by omega)
    have HM := Lib.hid (show countN (.mk t b ks) d = countKs ks (d + 1) 1 by unfold countN; rw [if_neg g2, if_neg g3, if_neg g4])
    have hd16 : d ≤ 16 := by omega
    clear g2 g3 g4
    go_enter Try.func33, Try.ntmps33
    have HC2 : (w.alloc (.cells #[.int .i64 t, .slice A b.length c, .slice A' ks.length c'] 25)).cell? ⟨w.heap.size, 2, none⟩ = some (.slice A' ks.length c') := by rw [World.cell?_alloc_at _ _ _ _ rfl]; rfl
    have HSZ1 : (w.alloc (.cells #[.int .i64 t, .slice A b.length c, .slice A' ks.length c'] 25)).heap.size = w.heap.size + 1 := by simp
    have HC2' := Lib.hid HC2
    clear HC2
    go_wp2
    generalize w.alloc (.cells #[.int .i64 t, .slice A b.length c, .slice A' ks.length c'] 25) = W1 at HC2' HA HSZ1 ⊢
    have HW1 := Lib.hid HSZ1
    have hBW : B ≤ W1.heap.size := by omega
    have hwW : w.heap.size < W1.heap.size := by omega
    clear HSZ1
    go_loopw [5, 6] (fun kv i wr => ∃ (q : Nat) (kk : Int), q ≤ ks.length ∧ i = .int .i64 q ∧ kv = .int .i64 kk ∧ 0 < kk ∧ kk ≤ 1024 ∧ Hid (Below W1.heap.size W1 wr) ∧ Hid (countKs (ks.drop q) (d + 1) kk = countKs ks (d + 1) 1)) (fun kv i _ => ks.length - (intOf i).toNat)
    case atStart => exact ⟨0, 1, Nat.zero_le _, rfl, rfl, by omega, by omega, Lib.hid (Below.refl _ _), Lib.hid rfl⟩
    case round =>
      obtain ⟨q, kk, hq, rfl, rfl, hk0, hk1, hBl, hT⟩ := hrel
      have hct := (hBl.out.cell (p := ⟨w.heap.size, 2, none⟩) (by simp only; omega)).trans HC2'.out
      rcases Nat.lt_or_ge q ks.length with hlt2 | hge2
      · obtain ⟨g, off, rfl, hg1, hg2, hks⟩ := H8.out (by omega)
        obtain ⟨k, r, hdr, hdr1, hmem⟩ := drop_cons_lt hlt2
        obtain ⟨v0, v1, v2, k0, k1, k2, hkn⟩ := hks.at_ hdr
        have hkeep : ∀ o, wr.cell? ⟨g, o, none⟩ = w.cell? ⟨g, o, none⟩ := fun o => (hBl.out.cell (p := ⟨g, o, none⟩) (by simp only; omega)).trans (HA.out.cell (p := ⟨g, o, none⟩) (by simp only; omega))
        have c0 := (hkeep _).trans k0
        have c1 := (hkeep _).trans k1
        have c2 := (hkeep _).trans k2
        have HKN := Lib.hid ((hkn.below HA.out hB).below hBl.out hBW)
        have HSZ := Lib.hid (show sizeN k ≤ m by
          have h1 := sizeN_mem hmem
          have h2 := HS.out
          unfold sizeN at h2
          omega)
        have HT2 := Lib.hid (show countKs ks (d + 1) 1 = if countN k (d + 1) < 0 ∨ 1024 < kk + countN k (d + 1) then -1 else countKs r (d + 1) (kk + countN k (d + 1)) by
          rw [← hT.out, hdr, countKs])
        have HD := Lib.hid hdr1
        have HCI := Lib.hid (count_iff k (d + 1)).2
        have HSW := Lib.hid hBl.out.size
        obtain ⟨t1, A1, n1, c1', A2, n2, c2', rfl, rfl, rfl⟩ := HKN.out.form
        clear hks k0 k1 k2 hkn hkeep hdr hdr1 hmem hT
        go_wp2_with fail
        refine Calls.mono (IH.out k [.int .i64 t1, .slice A1 n1 c1', .slice A2 n2 c2'] (d + 1) _ L B _ (by omega) HSZ.out (by omega) (by exact HKN.out) (by have := HSW.out; omega)) ?_
        rintro e w2 ⟨rfl, hb2⟩
        have B2 := Lib.hid (below_then hBl.out hBl.out.size hb2)
        clear hb2
        generalize countN k (d + 1) = cc at HT2 HCI ⊢
        by_cases g5 : cc < 0
        · have HM2 := Lib.hid (show countN (.mk t b ks) d = -1 by rw [HM.out, HT2.out, if_pos (.inl g5)])
          have d6 : decide (cc < 0) = true := decide_eq_true g5
          go_wp2
          go_ret
          exact CntPost.mk HM2.out (below_then HA.out (by omega) B2.out)
        · have hcc : cc ≤ 1024 := by
            have := HCI.out (by omega)
            omega
          have d6 : decide (cc < 0) = false := decide_eq_false g5
          by_cases g6 : 1024 < kk + cc
          · have HM2 := Lib.hid (show countN (.mk t b ks) d = -1 by rw [HM.out, HT2.out, if_pos (.inr g6)])
            have d7 : decide (1024 < kk + cc) = true := decide_eq_true g6
            go_wp2
            go_ret
            exact CntPost.mk HM2.out (below_then HA.out (by omega) B2.out)
          · have HT3 := Lib.hid (show countKs (ks.drop (q + 1)) (d + 1) (kk + cc) = countKs ks (d + 1) 1 by rw [HT2.out, HD.out, if_neg (by omega)])
            have d7 : decide (1024 < kk + cc) = false := decide_eq_false g6
            go_wp2
            go_roundw
            case rel => exact ⟨q + 1, kk + cc, hlt2, by go_num, rfl, by omega, by omega, B2, HT3⟩
            case measure => simp [intOf]; omega
      · obtain rfl : q = ks.length := by omega
        have HM2 := Lib.hid (show countN (.mk t b ks) d = kk by
          rw [HM.out, ← hT.out, List.drop_length]
          simp only [countKs])
        go_wp2
        go_ret
        exact CntPost.mk HM2.out (below_then HA.out (by omega) hBl.out)

set_option maxHeartbeats 400000 in
theorem ref_May {n : Nd} {cs : List Value} {L B : Nat} {w : World} (h : RepN w L B n cs) (hB : B ≤ w.heap.size) :
    Calls Try.prog 12 #[.agg cs.toArray] w fun e w' => e = .returned (.bool (MayN n)) ∧ Below w.heap.size w w' := by
  have H := Lib.hid h
  obtain ⟨t, A, n1, c, A', n2, c', rfl⟩ := box_node h
  clear h
  have HA := Lib.hid ((Below.refl w.heap.size w).alloc (Nat.le_refl _) (.cells #[.int .i64 t, .slice A n1 c, .slice A' n2 c'] 25))
  have HM := Lib.hid (show MayN n = decide (0 < countN n 1) by rw [may_ref]; rfl)
  go_enter Try.func12, Try.ntmps12
  go_wp2_with fail
  refine Calls.mono (ref_count _ n [.int .i64 t, .slice A n1 c, .slice A' n2 c'] 1 _ L B _ rfl (Nat.le_refl _) (by omega) (by exact H.out.alloc hB _) (by simp; omega)) ?_
  rintro e w2 ⟨rfl, hb2⟩
  have HB2 := Lib.hid (below_then HA.out (by simp) hb2)
  clear hb2
  go_wp2
  go_ret
  exact ⟨by rw [HM.out]; rfl, HB2.out⟩
end Go.Proofs.Ytanelmmklnpohaa
