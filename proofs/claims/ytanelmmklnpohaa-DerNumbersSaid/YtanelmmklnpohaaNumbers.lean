/-
  Walk of the law DerNumbers: numbers and object identifiers go to nodes and back.
  Conditions: none beyond the walks' own.
-/
import Derived.Test.YtanelmmklnpohaaDer19
namespace Go.Proofs.Ytanelmmklnpohaa
open Go.RowKit
set_option linter.unusedVariables false
set_option linter.unusedSimpArgs false

/-! ### Plain -/
theorem blen_le_of {v a b : Nat} (h : v < 2 ^ a) (hab : a ≤ b) : blen v ≤ b := Nat.le_trans (blen_le.2 h) hab
theorem may_leaf (t : Int) (b : List Nat) (h : t ≠ 48) : MayN (.mk t b []) = plainB t b := by
  unfold MayN mayN
  rw [if_neg (by omega), if_pos h]
  simp
theorem nat_int (v : Nat) : NatN (IntN v) = some v := by
  have hl : (bebytes (blen v / 8 + 1) v).length = blen v / 8 + 1 := bebytes_length _ _
  have hv : beval (bebytes (blen v / 8 + 1) v) = v := by
    rw [beval_bebytes]
    apply Nat.mod_eq_of_lt
    have h1 := blen_lt v
    rw [show (256 : Nat) = 2 ^ 8 from rfl, ← Nat.pow_mul]
    exact Nat.lt_of_lt_of_le h1 (Nat.pow_le_pow_right (by omega) (by omega))
  have g0 : (bebytes (blen v / 8 + 1) v).getD 0 0 < 128 := by
    rw [bebytes_get _ _ _ (by omega)]
    have h1 := blen_lt v
    have h2 : v / 256 ^ (blen v / 8 + 1 - 1 - 0) < 128 := by
      rw [Nat.div_lt_iff_lt_mul (Nat.pow_pos (by omega)), show (256 : Nat) = 2 ^ 8 from rfl, ← Nat.pow_mul, show (128 : Nat) = 2 ^ 7 from rfl, ← Nat.pow_add]
      exact Nat.lt_of_lt_of_le h1 (Nat.pow_le_pow_right (by omega) (by omega))
    exact Nat.lt_of_le_of_lt (Nat.mod_le _ _) h2
  have hp : plainB 2 (bebytes (blen v / 8 + 1) v) = true := by
    unfold plainB
    rw [if_pos rfl]
    simp only [Bool.and_eq_true, Bool.or_eq_true, decide_eq_true_eq]
    refine ⟨by omega, g0, ?_⟩
    rcases Nat.eq_zero_or_pos (blen v / 8) with h0 | h0
    · exact .inr (.inl (by omega))
    · by_cases hz : (bebytes (blen v / 8 + 1) v).getD 0 0 = 0
      · refine .inr (.inr ?_)
        -- the second byte has its top bit
        rw [bebytes_get _ _ _ (by omega)]
        rw [bebytes_get _ _ _ (by omega)] at hz
        have e1 : blen v / 8 + 1 - 1 - 1 = blen v / 8 - 1 := by omega
        have e0 : blen v / 8 + 1 - 1 - 0 = blen v / 8 := by omega
        rw [e1]
        rw [e0] at hz
        have h1 := blen_lt v
        have h2 := blen_ge (v := v) (by omega)
        have hsm : v / 256 ^ (blen v / 8) < 256 := by
          rw [Nat.div_lt_iff_lt_mul (Nat.pow_pos (by omega)), show (256 : Nat) = 2 ^ 8 from rfl, ← Nat.pow_mul, ← Nat.pow_add]
          exact Nat.lt_of_lt_of_le h1 (Nat.pow_le_pow_right (by omega) (by omega))
        rw [Nat.mod_eq_of_lt hsm] at hz
        have hlt : v < 256 ^ (blen v / 8) := by
          rcases Nat.lt_or_ge v (256 ^ (blen v / 8)) with h | h
          · exact h
          · have := Nat.div_pos h (Nat.pow_pos (by omega : 0 < 256)); omega
        have hmul : blen v = 8 * (blen v / 8) := by
          rw [show (256 : Nat) = 2 ^ 8 from rfl, ← Nat.pow_mul] at hlt
          have := blen_le.2 hlt
          omega
        have hge : 128 ≤ v / 256 ^ (blen v / 8 - 1) := by
          rw [Nat.le_div_iff_mul_le (Nat.pow_pos (by omega)), show (256 : Nat) = 2 ^ 8 from rfl, ← Nat.pow_mul, show (128 : Nat) = 2 ^ 7 from rfl, ← Nat.pow_add]
          exact Nat.le_trans (Nat.pow_le_pow_right (by omega) (by omega)) h2
        have hlt2 : v / 256 ^ (blen v / 8 - 1) < 256 := by
          rw [Nat.div_lt_iff_lt_mul (Nat.pow_pos (by omega)), show (256 : Nat) = 2 ^ 8 from rfl, ← Nat.pow_mul, ← Nat.pow_add]
          exact Nat.lt_of_lt_of_le h1 (Nat.pow_le_pow_right (by omega) (by omega))
        rw [Nat.mod_eq_of_lt hlt2]
        exact hge
      · exact .inl (by omega)
  unfold IntN NatN
  dsimp only
  rw [if_pos rfl, may_leaf 2 _ (by decide), hp, if_pos rfl, hv]
theorem arcs_node {l : List Int} {c : List Nat} (h : oidN l = some c) : arcsOf (.mk 6 c []) = some (l.map Int.toNat) := by
  unfold arcsOf
  dsimp only
  rw [if_pos rfl, may_leaf 6 _ (by decide)]
  have : plainB 6 c = nameB c := by unfold plainB; simp
  rw [this, (oid_name h).1, if_pos rfl]
  exact arcs_oid h
theorem arcs_alike (n : Nd) : arcsOf n = refArcsOf n := by
  obtain ⟨t, b, ks⟩ := n
  unfold arcsOf refArcsOf
  dsimp only
  by_cases h : t = 6
  · subst h
    rw [if_pos rfl, if_pos rfl]
    cases hm : MayN (.mk 6 b ks) with
    | false => rfl
    | true =>
      rw [if_pos rfl, if_pos rfl]
      refine arcs_ref ?_
      unfold MayN mayN at hm
      rw [if_neg (by omega), if_pos (by decide)] at hm
      simp only [Bool.and_eq_true] at hm
      have : plainB 6 b = nameB b := by unfold plainB; simp
      rw [← this]
      exact hm.2
  · rw [if_neg h, if_neg h]
theorem oid_ok {l : List Int} {c : List Nat} (h : oidN l = some c) : ∀ x ∈ l, 0 ≤ x := by
  match l, h with
  | [], h => simp [oidN] at h
  | [a], h => simp [oidN] at h
  | a :: b :: r, h =>
    rw [oidN_two] at h
    split at h
    · cases h
    · split at h
      · rename_i hall
        intro x hx
        have := List.all_eq_true.1 hall x hx
        simp [okArc] at this
        exact this.1
      · cases h
/-- A number of either kind that is none stands as 0. -/
theorem NatPost.big {base : Nat} {w w' : World} {r : Option Nat} {e : Ending} (h : NatPost base w r e w') : Below w.heap.size w w' ∧ ∃ V, e = .returned (.tuple #[V, .bool r.isSome]) ∧ Big w' w.heap.size w'.heap.size base (r.getD 0) V := by
  obtain ⟨hb, V, he, h0, h1⟩ := h
  refine ⟨hb, V, he, ?_⟩
  rcases r with _ | v
  · obtain rfl := h0 rfl
    exact ⟨[], none, 0, rfl, by simp, by simp, by simp, ⟨Dig.nil, by simp⟩, rfl, Rd.nil⟩
  · exact h1 v rfl
theorem kept {w a b : World} (h : Below w.heap.size w a) (k : Below a.heap.size a b) : Below w.heap.size w b := below_then h h.size k
def oidNode (r : Option (List Nat)) : Nd := match r with | some c => .mk 6 c [] | none => .mk 0 [] []
theorem RepN.nought (w : World) (L B : Nat) : RepN w L B (.mk 0 [] []) [.int .i64 0, .slice none 0 0, .slice none 0 0] := by
  unfold RepN
  exact ⟨none, 0, none, 0, rfl, by simp, by simp, by simp, by simp, ⟨by simp, by simp⟩, by simp, Dig.nil, Rd.nil, by simp⟩
theorem OIDPost.node {w w' : World} {r : Option (List Nat)} {e : Ending} (h : OIDPost w r e w') : Below w.heap.size w w' ∧ ∃ t A1 n1 c1 A2 n2 c2, e = .returned (.tuple #[.agg #[.int .i64 t, .slice A1 n1 c1, .slice A2 n2 c2], .bool r.isSome]) ∧
    RepN w' w.heap.size w'.heap.size (oidNode r) [.int .i64 t, .slice A1 n1 c1, .slice A2 n2 c2] := by
  obtain ⟨hb, t, A1, n1, c1, A2, n2, c2, he, h0, h1⟩ := h
  refine ⟨hb, t, A1, n1, c1, A2, n2, c2, he, ?_⟩
  rcases r with _ | c
  · obtain ⟨rfl, rfl, rfl, rfl, rfl, rfl, rfl⟩ := h0 rfl
    exact RepN.nought _ _ _
  · exact h1 c rfl
theorem ArcsPost.row {w w' : World} {r : Option (List Nat)} {e : Ending} (h : ArcsPost w r e w') : Below w.heap.size w w' ∧ ∃ A c, e = .returned (.tuple #[.slice A (r.getD []).length c, .bool r.isSome]) ∧ (r.getD []).length ≤ c ∧ c ≤ maxLen ∧ Rd w' w.heap.size w'.heap.size A (nums .i64 (r.getD [])) := by
  obtain ⟨hb, A, n, c, he, h0, h1⟩ := h
  rcases r with _ | l
  · obtain ⟨rfl, rfl, rfl⟩ := h0 rfl
    exact ⟨hb, none, 0, he, by simp, by simp, Rd.nil⟩
  · obtain ⟨rfl, h2, h3, h4⟩ := h1 l rfl
    exact ⟨hb, A, c, he, h2, h3, h4⟩

set_option maxHeartbeats 8000000 in
set_option maxRecDepth 100000 in
theorem law_DerNumbers (xs : List Nat) (Aa : Option Addr) (ca : Nat) (ar : List Int) (Ar : Option Addr) (cr : Nat) (cs : List Value) (B : Nat) (w : World) (hB : B ≤ w.heap.size) (hin : InN w B 17 cs)
    (hca : xs.length ≤ ca) (hcam : ca ≤ maxLen) (hda : Dig (2 ^ 64) xs) (ha : Rd w 0 B Aa (nums .u64 xs)) (hcr : ar.length ≤ cr) (hcrm : cr ≤ maxLen) (hr : Rd w 0 B Ar (ints ar)) :
    Calls Try.prog 5 #[.slice Aa xs.length ca, .slice Ar ar.length cr, .agg cs.toArray] w fun e w' => e = .returned (.bool true) ∧ Below w.heap.size w w' := by
  have HA := Lib.hid ha
  have HDA := Lib.hid hda
  have HR := Lib.hid hr
  have HIN := Lib.hid hin
  obtain ⟨t, X, nb, xc, X', nk, xc', rfl, hh⟩ := hin.head
  clear ha hda hr hin hh
  have B0 := Lib.hid ((Below.refl w.heap.size w).alloc (Nat.le_refl _) (.cells #[.int .i64 t, .slice X nb xc, .slice X' nk xc'] 25))
  have K0 := Lib.hid (Blk.made (w := w) (v0 := .int .i64 t) (v1 := .slice X nb xc) (v2 := .slice X' nk xc') (t := 25) (g := w.heap.size) rfl)
  have hs0 : (w.alloc (.cells #[.int .i64 t, .slice X nb xc, .slice X' nk xc'] 25)).heap.size = w.heap.size + 1 := by simp
  go_enter Try.func5, Try.ntmps5
  go_wp2_with fail
  generalize w.alloc (.cells #[.int .i64 t, .slice X nb xc, .slice X' nk xc'] 25) = w0 at *
  have S0 := Lib.hid hs0
  clear hs0
  refine Calls.mono (law_begun w0) ?_
  rintro e w1 ⟨rfl, hb1⟩
  have B1 := Lib.hid (below_then B0.out B0.out.size hb1)
  have K1 := Lib.hid (K0.out.below hb1 K0.out.lt)
  have A1 := Lib.hid (HA.out.below B1.out hB)
  have S1 := Lib.hid (show w.heap.size + 1 ≤ w1.heap.size by have := hb1.size; have := S0.out; omega)
  clear hb1 B0 K0 S0 HA
  go_wp2_with fail
  -- Cut
  refine Calls.mono (law_Cut (V := .bool true) (v := 0) (12 : Int) 12 rfl xs Aa xs.length ca rfl hca (by omega) A1.out) ?_
  rintro e w2 ⟨V2, rfl, ho2, hb2⟩
  have B2 := Lib.hid (below_then B1.out B1.out.size hb2)
  have K2 := Lib.hid (K1.out.below hb2 K1.out.lt)
  have S2 := Lib.hid (show w1.heap.size ≤ w2.heap.size from hb2.size)
  have hn2 : Num w2 w1.heap.size w2.heap.size (2 ^ 64) (val (2 ^ 64) (xs.take 12)) V2 := num_of_own ho2 (by rw [List.length_take]; omega) (HDA.out.take 12)
  have hv2 : blen (val (2 ^ 64) (xs.take 12)) ≤ 768 := by
    have h1 := val_lt (HDA.out.take 12)
    have h2 : (xs.take 12).length ≤ 12 := List.length_take_le _ _
    rw [← Nat.pow_mul] at h1
    exact blen_le_of h1 (by omega)
  obtain ⟨C2, ck2, hV2, _, _⟩ := own_form ho2
  subst hV2
  have hml : min xs.length 12 ≤ 12 := by omega
  have N2 := Lib.hid hn2
  have HV := Lib.hid hv2
  clear hn2 hv2 ho2 hb2 B1 K1 A1 HDA
  generalize val (2 ^ 64) (xs.take 12) = v at N2 HV
  -- arcs = arcs[:12]
  go_upto_if 33 with fail
  go_cut [1] from 34 to 35 (fun V wc => V = .slice Ar (min ar.length 12) cr ∧ w2 = wc)
  case first =>
    by_cases g : 12 < ar.length
    · have d1 : decide (12 < (ar.length : Int)) = true := decide_eq_true (by omega)
      have hcr12 : (12 : Int) ≤ (cr : Int) := by omega
      have e1 : min ar.length 12 = 12 := by omega
      go_wp2
      go_meet
      case rel => exact ⟨by rw [e1], rfl⟩
    · have d1 : decide (12 < (ar.length : Int)) = false := decide_eq_false (by omega)
      have e1 : min ar.length 12 = ar.length := by omega
      go_wp2
      go_meet
      case rel => exact ⟨by rw [e1], rfl⟩
  case rest =>
    obtain ⟨rfl, rfl⟩ := hcut
    have hla : (ar.take 12).length = min ar.length 12 := by rw [List.length_take, Nat.min_comm]
    have HR0 := Lib.hid (show Rd w 0 B Ar (ints (ar.take 12)) by have := HR.out.take 12; unfold ints at this ⊢; rwa [List.map_take])
    rw [← hla]
    have hl12 : (ar.take 12).length ≤ 12 := List.length_take_le _ _
    have hlcr : (ar.take 12).length ≤ cr := by rw [hla]; omega
    generalize ar.take 12 = l at *
    clear hla HR
    have I2 := Lib.hid (HIN.out.keep (w' := w2) (fun p hp => B2.out.cell (by omega)))
    obtain ⟨⟨k0, k1, k2⟩, kf0, kf1, kf2⟩ := K2.out
    go_wp2_with fail
    clear k0 k1 k2 kf0 kf1 kf2
    -- cut
    refine Calls.mono (law_cut I2.out (by have := S2.out; have := S1.out; omega)) ?_
    rintro e w3 ⟨nd, t1, A1, n1, c1, A2, n2, c2, rfl, hb3, hr3, hn3⟩
    have B4 := Lib.hid (below_set3 (below_then B2.out B2.out.size hb3) (Nat.le_refl _) (.int .i64 t1) (.slice A1 n1 c1) (.slice A2 n2 c2))
    have K3 := Lib.hid (K2.out.below hb3 K2.out.lt)
    have K4 := Lib.hid (K3.out.set3 (.int .i64 t1) (.slice A1 n1 c1) (.slice A2 n2 c2))
    have R4 := Lib.hid (RepN.keep (w' := ((w3.setCell ⟨w.heap.size, 0, none⟩ (.int .i64 t1)).setCell ⟨w.heap.size, 1, none⟩ (.slice A1 n1 c1)).setCell ⟨w.heap.size, 2, none⟩ (.slice A2 n2 c2)) (fun p p1 p2 => cell_set3 (by have := S2.out; have := S1.out; omega) _ _ _) hr3)
    have N4 : Hid (Num (((w3.setCell ⟨w.heap.size, 0, none⟩ (.int .i64 t1)).setCell ⟨w.heap.size, 1, none⟩ (.slice A1 n1 c1)).setCell ⟨w.heap.size, 2, none⟩ (.slice A2 n2 c2)) w1.heap.size w2.heap.size (2 ^ 64) v (.slice C2 (min xs.length 12) ck2)) := by
      obtain ⟨ys, Y, cy, e1, e2, e3, e4, e5, e6, e7⟩ := N2.out.below hb3 (Nat.le_refl _)
      exact ⟨ys, Y, cy, e1, e2, e3, e4, e5, e6, rd_set3 e7 (.inl (by have := S1.out; omega)) _ _ _⟩
    have hs4 := size_set3 w3 w.heap.size (.int .i64 t1) (.slice A1 n1 c1) (.slice A2 n2 c2)
    have hs3 : w2.heap.size ≤ w3.heap.size := hb3.size
    clear hb3 hr3 I2 HIN N2 K2
    obtain ⟨⟨k0, k1, k2⟩, kf0, kf1, kf2⟩ := K3.out
    go_wp2_with fail
    clear k0 k1 k2 kf0 kf1 kf2
    generalize ((w3.setCell ⟨w.heap.size, 0, none⟩ (.int .i64 t1)).setCell ⟨w.heap.size, 1, none⟩ (.slice A1 n1 c1)).setCell ⟨w.heap.size, 2, none⟩ (.slice A2 n2 c2) = w4 at *
    have S4 := Lib.hid (show w3.heap.size ≤ w4.heap.size by omega)
    have S24 := Lib.hid (show w2.heap.size ≤ w4.heap.size by omega)
    have SB4 := Lib.hid (show B ≤ w4.heap.size by have := S1.out; have := S2.out; omega)
    have SW4 := Lib.hid (show w.heap.size < w4.heap.size from K4.out.lt)
    have A4 := Lib.hid (HR0.out.below B4.out hB)
    clear hs4 hs3 K3 B2 HR0
    -- From
    refine Calls.mono (ref1_from N4.out S24.out (fun ys A c e => by injection e with _ e _; omega)) ?_
    rintro e w5 ⟨V5, rfl, hx5, hb5⟩
    have H4 := Lib.hid hb5
    have X5 := Lib.hid hx5
    clear hx5 hb5
    go_wp2_with fail
    -- Int
    refine Calls.mono (der_Int (N4.out.below H4.out S24.out) (by have := S24.out; have := (H4.out).size; omega) (by have := HV.out; omega)) ?_
    rintro e w6 ⟨hb6, tI, AI, nI, cI, AI', nI', cI', rfl, hr6⟩
    have H5 := Lib.hid hb6
    have H6 : Hid (Below w6.heap.size w6 (w6.alloc (.cells #[.int .i64 tI, .slice AI nI cI, .slice AI' nI' cI'] 25))) := Lib.hid ((Below.refl _ _).alloc (Nat.le_refl _) _)
    have KI := Lib.hid (Blk.made (w := w6) (v0 := .int .i64 tI) (v1 := .slice AI nI cI) (v2 := .slice AI' nI' cI') (t := 25) (g := w6.heap.size) rfl)
    have R6 := Lib.hid hr6
    clear hb6 hr6
    obtain ⟨⟨k0, k1, k2⟩, kf0, kf1, kf2⟩ := KI.out
    go_wp2_with fail
    clear k0 k1 k2 kf0 kf1 kf2
    generalize w6.alloc (.cells #[.int .i64 tI, .slice AI nI cI, .slice AI' nI' cI'] 25) = w7 at *
    -- Nat (i)
    refine Calls.mono (der_Nat (R6.out.below H6.out (Nat.le_refl _)) (H6.out).size) ?_
    intro e w8 hp
    rw [nat_int] at hp
    obtain ⟨hb8, V8, rfl, hv8⟩ := hp.big
    simp only [Option.getD_some, Option.isSome_some] at hv8 ⊢
    have H7 := Lib.hid hb8
    have X8 := Lib.hid hv8
    clear hp hb8 hv8
    obtain ⟨⟨k0, k1, k2⟩, kf0, kf1, kf2⟩ := K4.out.below (kept H4.out (kept H5.out (kept H6.out H7.out))) K4.out.lt
    go_wp2_with fail
    clear k0 k1 k2 kf0 kf1 kf2
    -- Nat (n)
    refine Calls.mono (der_Nat (R4.out.below (kept H4.out (kept H5.out (kept H6.out H7.out))) S4.out) (by have := S4.out; have := ((kept H4.out (kept H5.out (kept H6.out H7.out)))).size; omega)) ?_
    intro e w9 hp
    obtain ⟨hb9, V9, rfl, hv9⟩ := hp.big
    have H8 := Lib.hid hb9
    have X9 := Lib.hid hv9
    clear hp hb9 hv9
    obtain ⟨⟨k0, k1, k2⟩, kf0, kf1, kf2⟩ := K4.out.below (kept H4.out (kept H5.out (kept H6.out (kept H7.out H8.out)))) K4.out.lt
    go_wp2_with fail
    clear k0 k1 k2 kf0 kf1 kf2
    -- the reference's Nat (n)
    refine Calls.mono (ref_Nat (R4.out.below (kept H4.out (kept H5.out (kept H6.out (kept H7.out H8.out)))) S4.out) (by have := S4.out; have := ((kept H4.out (kept H5.out (kept H6.out (kept H7.out H8.out))))).size; omega)) ?_
    intro e w10 hp
    obtain ⟨hb10, V10, rfl, hv10⟩ := hp.big
    have H9 := Lib.hid hb10
    have X10 := Lib.hid hv10
    clear hp hb10 hv10
    generalize NatN nd = rn at *
    go_wp2_with fail
    -- OID
    refine Calls.mono (der_OID (A4.out.below (kept H4.out (kept H5.out (kept H6.out (kept H7.out (kept H8.out H9.out))))) SB4.out) (by have := SB4.out; have := ((kept H4.out (kept H5.out (kept H6.out (kept H7.out (kept H8.out H9.out)))))).size; omega) (by omega) hlcr hcrm) ?_
    intro e w11 hp
    obtain ⟨hb11, tO, AO, nO, cO, AO', nO', cO', rfl, hr11⟩ := hp.node
    have H10 := Lib.hid hb11
    have H11 : Hid (Below w11.heap.size w11 (w11.alloc (.cells #[.int .i64 tO, .slice AO nO cO, .slice AO' nO' cO'] 25))) := Lib.hid ((Below.refl _ _).alloc (Nat.le_refl _) _)
    have KO := Lib.hid (Blk.made (w := w11) (v0 := .int .i64 tO) (v1 := .slice AO nO cO) (v2 := .slice AO' nO' cO') (t := 25) (g := w11.heap.size) rfl)
    have R11 := Lib.hid hr11
    clear hp hb11 hr11
    go_wp2_with fail
    generalize w11.alloc (.cells #[.int .i64 tO, .slice AO nO cO, .slice AO' nO' cO'] 25) = w12 at *
    -- the reference's OID
    refine Calls.mono (ref_OID (A4.out.below (kept H4.out (kept H5.out (kept H6.out (kept H7.out (kept H8.out (kept H9.out (kept H10.out H11.out))))))) SB4.out) (by have := SB4.out; have := ((kept H4.out (kept H5.out (kept H6.out (kept H7.out (kept H8.out (kept H9.out (kept H10.out H11.out)))))))).size; omega) (by omega) hlcr hcrm) ?_
    intro e w13 hp
    obtain ⟨hb13, tP, AP, nP, cP, AP', nP', cP', rfl, hr13⟩ := hp.node
    have H12 := Lib.hid hb13
    have H13 : Hid (Below w13.heap.size w13 (w13.alloc (.cells #[.int .i64 tP, .slice AP nP cP, .slice AP' nP' cP'] 25))) := Lib.hid ((Below.refl _ _).alloc (Nat.le_refl _) _)
    have KP := Lib.hid (Blk.made (w := w13) (v0 := .int .i64 tP) (v1 := .slice AP nP cP) (v2 := .slice AP' nP' cP') (t := 25) (g := w13.heap.size) rfl)
    have R13 := Lib.hid hr13
    have K14 := Lib.hid ((K4.out.below (kept H4.out (kept H5.out (kept H6.out (kept H7.out (kept H8.out (kept H9.out (kept H10.out (kept H11.out H12.out)))))))) K4.out.lt).alloc (.cells #[.int .i64 tP, .slice AP nP cP, .slice AP' nP' cP'] 25))
    clear hp hb13 hr13
    obtain ⟨⟨k0, k1, k2⟩, kf0, kf1, kf2⟩ := K14.out
    go_wp2_with fail
    clear k0 k1 k2 kf0 kf1 kf2
    generalize w13.alloc (.cells #[.int .i64 tP, .slice AP nP cP, .slice AP' nP' cP'] 25) = w14 at *
    clear K14
    -- Arcs (n)
    refine Calls.mono (der_Arcs (R4.out.below (kept H4.out (kept H5.out (kept H6.out (kept H7.out (kept H8.out (kept H9.out (kept H10.out (kept H11.out (kept H12.out H13.out))))))))) S4.out) (by have := S4.out; have := ((kept H4.out (kept H5.out (kept H6.out (kept H7.out (kept H8.out (kept H9.out (kept H10.out (kept H11.out (kept H12.out H13.out)))))))))).size; omega)) ?_
    intro e w15 hp
    obtain ⟨hb15, AL, cL, rfl, hcL, hmL, hl15⟩ := hp.row
    have H14 := Lib.hid hb15
    have L15 := Lib.hid hl15
    clear hp hb15 hl15
    obtain ⟨⟨k0, k1, k2⟩, kf0, kf1, kf2⟩ := K4.out.below (kept H4.out (kept H5.out (kept H6.out (kept H7.out (kept H8.out (kept H9.out (kept H10.out (kept H11.out (kept H12.out (kept H13.out H14.out)))))))))) K4.out.lt
    go_wp2_with fail
    clear k0 k1 k2 kf0 kf1 kf2
    -- the reference's Arcs (n)
    refine Calls.mono (ref_Arcs (R4.out.below (kept H4.out (kept H5.out (kept H6.out (kept H7.out (kept H8.out (kept H9.out (kept H10.out (kept H11.out (kept H12.out (kept H13.out H14.out)))))))))) S4.out) (by have := S4.out; have := ((kept H4.out (kept H5.out (kept H6.out (kept H7.out (kept H8.out (kept H9.out (kept H10.out (kept H11.out (kept H12.out (kept H13.out H14.out))))))))))).size; omega) (by omega)) ?_
    intro e w16 hp
    rw [← arcs_alike] at hp
    obtain ⟨hb16, AM, cM, rfl, hcM, hmM, hl16⟩ := hp.row
    have H15 := Lib.hid hb16
    have M16 := Lib.hid hl16
    clear hp hb16 hl16
    generalize arcsOf nd = ra at *
    have AN := Lib.hid (fun c (e : oidN l = some c) => (⟨arcs_node e, oid_ok e⟩ : arcsOf (.mk 6 c []) = some (l.map Int.toNat) ∧ ∀ x ∈ l, 0 ≤ x))
    generalize oidN l = ro at *
    have CI := Lib.hid (fun wz (h : Below w16.heap.size w16 wz) => (KI.out.below (kept (kept H7.out (kept H8.out (kept H9.out (kept H10.out (kept H11.out (kept H12.out (kept H13.out (kept H14.out H15.out)))))))) h) KI.out.lt).1)
    have CO := Lib.hid (fun wz (h : Below w16.heap.size w16 wz) => (KO.out.below (kept (kept H12.out (kept H13.out (kept H14.out H15.out))) h) KO.out.lt).1)
    have CP := Lib.hid (fun wz (h : Below w16.heap.size w16 wz) => (KP.out.below (kept (kept H14.out H15.out) h) KP.out.lt).1)
    have E5 := Lib.hid (fun wz (h : Below w16.heap.size w16 wz) => (⟨X5.out.below (kept (kept H5.out (kept H6.out (kept H7.out (kept H8.out (kept H9.out (kept H10.out (kept H11.out (kept H12.out (kept H13.out (kept H14.out H15.out)))))))))) h) (Nat.le_refl _), (kept (kept H5.out (kept H6.out (kept H7.out (kept H8.out (kept H9.out (kept H10.out (kept H11.out (kept H12.out (kept H13.out (kept H14.out H15.out)))))))))) h).size⟩ : Big wz w4.heap.size w5.heap.size (2 ^ 32) v V5 ∧ w5.heap.size ≤ wz.heap.size))
    have E6 := Lib.hid (fun wz (h : Below w16.heap.size w16 wz) => (⟨R6.out.below (kept (kept H6.out (kept H7.out (kept H8.out (kept H9.out (kept H10.out (kept H11.out (kept H12.out (kept H13.out (kept H14.out H15.out))))))))) h) (Nat.le_refl _), (kept (kept H6.out (kept H7.out (kept H8.out (kept H9.out (kept H10.out (kept H11.out (kept H12.out (kept H13.out (kept H14.out H15.out))))))))) h).size⟩ : RepN wz w5.heap.size w6.heap.size (IntN v) [.int .i64 tI, .slice AI nI cI, .slice AI' nI' cI'] ∧ w6.heap.size ≤ wz.heap.size))
    have E8 := Lib.hid (fun wz (h : Below w16.heap.size w16 wz) => (⟨X8.out.below (kept (kept H8.out (kept H9.out (kept H10.out (kept H11.out (kept H12.out (kept H13.out (kept H14.out H15.out))))))) h) (Nat.le_refl _), (kept (kept H8.out (kept H9.out (kept H10.out (kept H11.out (kept H12.out (kept H13.out (kept H14.out H15.out))))))) h).size⟩ : Big wz w7.heap.size w8.heap.size (2 ^ 64) v V8 ∧ w8.heap.size ≤ wz.heap.size))
    have E9 := Lib.hid (fun wz (h : Below w16.heap.size w16 wz) => (⟨X9.out.below (kept (kept H9.out (kept H10.out (kept H11.out (kept H12.out (kept H13.out (kept H14.out H15.out)))))) h) (Nat.le_refl _), (kept (kept H9.out (kept H10.out (kept H11.out (kept H12.out (kept H13.out (kept H14.out H15.out)))))) h).size⟩ : Big wz w8.heap.size w9.heap.size (2 ^ 64) (rn.getD 0) V9 ∧ w9.heap.size ≤ wz.heap.size))
    have E10 := Lib.hid (fun wz (h : Below w16.heap.size w16 wz) => (⟨X10.out.below (kept (kept H10.out (kept H11.out (kept H12.out (kept H13.out (kept H14.out H15.out))))) h) (Nat.le_refl _), (kept (kept H10.out (kept H11.out (kept H12.out (kept H13.out (kept H14.out H15.out))))) h).size⟩ : Big wz w9.heap.size w10.heap.size (2 ^ 32) (rn.getD 0) V10 ∧ w10.heap.size ≤ wz.heap.size))
    have E11 := Lib.hid (fun wz (h : Below w16.heap.size w16 wz) => (⟨R11.out.below (kept (kept H11.out (kept H12.out (kept H13.out (kept H14.out H15.out)))) h) (Nat.le_refl _), (kept (kept H11.out (kept H12.out (kept H13.out (kept H14.out H15.out)))) h).size⟩ : RepN wz w10.heap.size w11.heap.size (oidNode ro) [.int .i64 tO, .slice AO nO cO, .slice AO' nO' cO'] ∧ w11.heap.size ≤ wz.heap.size))
    have E13 := Lib.hid (fun wz (h : Below w16.heap.size w16 wz) => (⟨R13.out.below (kept (kept H13.out (kept H14.out H15.out)) h) (Nat.le_refl _), (kept (kept H13.out (kept H14.out H15.out)) h).size⟩ : RepN wz w12.heap.size w13.heap.size (oidNode ro) [.int .i64 tP, .slice AP nP cP, .slice AP' nP' cP'] ∧ w13.heap.size ≤ wz.heap.size))
    have E15 := Lib.hid (fun wz (h : Below w16.heap.size w16 wz) => (L15.out.below (kept H15.out h) (Nat.le_refl _)))
    have E16 := Lib.hid (fun wz (h : Below w16.heap.size w16 wz) => (M16.out.below h (Nat.le_refl _)))
    have EA := Lib.hid (fun wz (h : Below w16.heap.size w16 wz) => (A4.out.below (kept (kept H4.out (kept H5.out (kept H6.out (kept H7.out (kept H8.out (kept H9.out (kept H10.out (kept H11.out (kept H12.out (kept H13.out (kept H14.out H15.out))))))))))) h) SB4.out))
    have B16 := Lib.hid (below_then B4.out B4.out.size (kept H4.out (kept H5.out (kept H6.out (kept H7.out (kept H8.out (kept H9.out (kept H10.out (kept H11.out (kept H12.out (kept H13.out (kept H14.out H15.out))))))))))))
    have H15s := Lib.hid (show w15.heap.size ≤ w16.heap.size from H15.out.size)
    have S16 := Lib.hid (show w4.heap.size ≤ w16.heap.size from ((kept H4.out (kept H5.out (kept H6.out (kept H7.out (kept H8.out (kept H9.out (kept H10.out (kept H11.out (kept H12.out (kept H13.out (kept H14.out H15.out)))))))))))).size)
    clear A4 B4 K4 R4 N4 KI KO KP X5 R6 X8 X9 X10 R11 R13 L15 M16 H4 H5 H6 H7 H8 H9 H10 H11 H12 H13 H14 H15
    have e1 : (rn.isSome != rn.isSome) = false := by simp
    have e2 : (ro.isSome != ro.isSome) = false := by simp
    have e3 : (ra.isSome != ra.isSome) = false := by simp
    have e4 : (((ra.getD []).length : Int) != ((ra.getD []).length : Int)) = false := by simp
    go_upto_region 15 with fail
    go_cut [125] from 77 to 125 (fun V wc => V = .bool false ∧ Hid (Below w16.heap.size w16 wc))
    case first =>
      have T16 : Below w16.heap.size w16 w16.drew := (Below.refl _ _).drew
      obtain ⟨i0, i1, i2⟩ := CI.out w16 (Below.refl _ _)
      obtain ⟨o0, o1, o2⟩ := CO.out w16 (Below.refl _ _)
      obtain ⟨p0, p1, p2⟩ := CP.out w16 (Below.refl _ _)
      go_region_held3 (fun w' => w'.cell? ⟨w6.heap.size, 0, none⟩ = some (.int .i64 tI) ∧ w'.cell? ⟨w6.heap.size, 1, none⟩ = some (.slice AI nI cI) ∧ w'.cell? ⟨w6.heap.size, 2, none⟩ = some (.slice AI' nI' cI') ∧
          w'.cell? ⟨w11.heap.size, 0, none⟩ = some (.int .i64 tO) ∧ w'.cell? ⟨w11.heap.size, 1, none⟩ = some (.slice AO nO cO) ∧ w'.cell? ⟨w11.heap.size, 2, none⟩ = some (.slice AO' nO' cO') ∧
          w'.cell? ⟨w13.heap.size, 0, none⟩ = some (.int .i64 tP) ∧ w'.cell? ⟨w13.heap.size, 1, none⟩ = some (.slice AP nP cP) ∧ w'.cell? ⟨w13.heap.size, 2, none⟩ = some (.slice AP' nP' cP'))
        (first
          | exact ⟨(CI.out _ T21).1, (CI.out _ T21).2.1, (CI.out _ T21).2.2, (CO.out _ T21).1, (CO.out _ T21).2.1, (CO.out _ T21).2.2, (CP.out _ T21).1, (CP.out _ T21).2.1, (CP.out _ T21).2.2⟩
          | exact ⟨(CI.out _ T20).1, (CI.out _ T20).2.1, (CI.out _ T20).2.2, (CO.out _ T20).1, (CO.out _ T20).2.1, (CO.out _ T20).2.2, (CP.out _ T20).1, (CP.out _ T20).2.1, (CP.out _ T20).2.2⟩
          | exact ⟨(CI.out _ T19).1, (CI.out _ T19).2.1, (CI.out _ T19).2.2, (CO.out _ T19).1, (CO.out _ T19).2.1, (CO.out _ T19).2.2, (CP.out _ T19).1, (CP.out _ T19).2.1, (CP.out _ T19).2.2⟩
          | exact ⟨(CI.out _ T18).1, (CI.out _ T18).2.1, (CI.out _ T18).2.2, (CO.out _ T18).1, (CO.out _ T18).2.1, (CO.out _ T18).2.2, (CP.out _ T18).1, (CP.out _ T18).2.1, (CP.out _ T18).2.2⟩
          | exact ⟨(CI.out _ T17).1, (CI.out _ T17).2.1, (CI.out _ T17).2.2, (CO.out _ T17).1, (CO.out _ T17).2.1, (CO.out _ T17).2.2, (CP.out _ T17).1, (CP.out _ T17).2.1, (CP.out _ T17).2.2⟩
          | exact ⟨(CI.out _ T16).1, (CI.out _ T16).2.1, (CI.out _ T16).2.2, (CO.out _ T16).1, (CO.out _ T16).2.1, (CO.out _ T16).2.2, (CP.out _ T16).1, (CP.out _ T16).2.1, (CP.out _ T16).2.2⟩
          | go_keep)
        (first
          | (go_at_call 15
             refine Calls.mono (ref_Eq _ (oidNode ro) [.int .i64 tO, .slice AO nO cO, .slice AO' nO' cO'] [.int .i64 tP, .slice AP nP cP, .slice AP' nP' cP'] _ _ _ _ w20 (Nat.le_refl _) (E11.out _ T20).1 (E13.out _ T20).1 (E11.out _ T20).2 (E13.out _ T20).2) ?_
             rintro e w21 ⟨rfl, hb21⟩
             have T21 : Below w16.heap.size w16 w21 := below_then T20 T20.size hb21)
          | (go_at_call 27
             refine Calls.mono (ref1_is (w := w19) (V := V9) (U := V10) (E9.out _ T19).1 (E9.out _ T19).2 (E10.out _ T19).1 (E10.out _ T19).2) ?_
             rintro e w20 ⟨_, rfl, rfl, hb20⟩
             have T20 : Below w16.heap.size w16 w20 := below_then T19 T19.size hb20)
          | (go_at_call 27
             refine Calls.mono (ref1_is (w := w18) (V := V8) (U := V5) (E8.out _ T18).1 (E8.out _ T18).2 (E5.out _ T18).1 (E5.out _ T18).2) ?_
             rintro e w19 ⟨_, rfl, rfl, hb19⟩
             have T19 : Below w16.heap.size w16 w19 := below_then T18 T18.size hb19)
          | (go_at_call 15
             refine Calls.mono (ref_Eq _ (IntN v) [.int .i64 tI, .slice AI nI cI, .slice AI' nI' cI'] [.int .i64 tq, .slice Aq nq cq, .slice Aq' nq' cq'] _ _ _ _ w17 (Nat.le_refl _) (E6.out _ T17).1 hr17 (E6.out _ T17).2 (Nat.le_refl _)) ?_
             rintro e w18 ⟨rfl, hb18⟩
             have T18 : Below w16.heap.size w16 w18 := below_then T17 T17.size hb18)
          | (go_at_call 26
             refine Calls.mono (ref_Int (w := w16.drew) (E5.out _ T16).1 (E5.out _ T16).2 (by have := HV.out; omega)) ?_
             rintro e w17 ⟨hb17, tq, Aq, nq, cq, Aq', nq', cq', rfl, hr17⟩
             have T17 : Below w16.heap.size w16 w17 := below_then T16 (Nat.le_refl _) hb17)
          | fail)
      all_goals
        have HF := Lib.hid T21
        clear hb17 hb18 hb19 hb20 hb21 hr17 T16 T17 T18 T19 T20 T21 i0 i1 i2 o0 o1 o2 p0 p1 p2
        go_wp2
        go_meet
        case rel => exact ⟨rfl, HF⟩
    case rest =>
      obtain ⟨rfl, HF⟩ := hcut
      have L17 := Lib.hid (E15.out _ HF.out)
      have M17 := Lib.hid (E16.out _ HF.out)
      have A17 := Lib.hid (EA.out _ HF.out)
      have O17 := Lib.hid (E11.out _ HF.out)
      have C17 := Lib.hid (CO.out _ HF.out)
      have B17 := Lib.hid (below_then B16.out B16.out.size HF.out)
      have Z17 := Lib.hid (show w15.heap.size ≤ wc.heap.size ∧ w16.heap.size ≤ wc.heap.size ∧ B ≤ wc.heap.size by have := HF.out.size; have := H15s.out; have := SB4.out; have := S16.out; omega)
      have hi62 : (ra.getD []).length ≤ 9223372036854775807 := by unfold maxLen at hmL; omega
      have CLT := Lib.hid (show w11.heap.size < wc.heap.size from World.block_lt_of_cell? _ _ C17.out.1)
      clear CI CO CP E5 E6 E8 E9 E10 E11 E13 E15 E16 EA e1 e2 e3 e4 HF B16
      generalize ra.getD [] = ll at *
      go_wp2
      go_loopw [24] (fun i wr => ∃ q : Nat, q ≤ ll.length ∧ i = .int .i64 q ∧ Hid (Below wc.heap.size wc wr)) (fun i _ => ll.length - (intOf i).toNat)
      case atStart => exact ⟨0, Nat.zero_le _, rfl, Lib.hid (Below.refl _ _)⟩
      case round =>
        obtain ⟨q, hq, rfl, HG⟩ := hrel
        rcases Nat.lt_or_ge q ll.length with hlt | hge
        · have LQ := L17.out.below HG.out Z17.out.1
          have MQ := M17.out.below HG.out Z17.out.2.1
          obtain ⟨b, off, rfl, _, _, hcb⟩ := LQ.num hlt
          obtain ⟨b', off', rfl, _, _, hcb'⟩ := MQ.num hlt
          have x0 := hcb q hlt
          have y0 := hcb' q hlt
          generalize ll.getD q 0 = x at x0 y0
          clear LQ MQ hcb hcb'
          have hidx : (q : Int) < (ll.length : Int) := by omega
          have hz0 : (0 : Int) ≤ (q : Int) := by omega
          have d1 : decide ((q : Int) < (ll.length : Int)) = true := decide_eq_true hidx
          have d2 : ((x : Int) != (x : Int)) = false := by simp
          go_wp2_with fail
          go_quiet (fail)
          go_wp2
          go_roundw
          case rel => exact ⟨q + 1, hlt, by go_num, Lib.hid (below_drewN HG.out _)⟩
          case measure => simp [intOf]; omega
        · have d1 : decide ((q : Int) < (ll.length : Int)) = false := decide_eq_false (by omega)
          rcases ro with _ | c
          · simp only [Option.isSome_none] at *
            go_wp2
            go_ret
            exact ⟨rfl, below_then B17.out B17.out.size HG.out⟩
          · simp only [Option.isSome_some] at *
            obtain ⟨hac, hnn⟩ := AN.out c rfl
            have HNN := Lib.hid hnn
            have HAC := Lib.hid hac
            clear hac hnn
            have c0 := (HG.out.cell (p := ⟨w11.heap.size, 0, none⟩) CLT.out).trans C17.out.1
            have c1 := (HG.out.cell (p := ⟨w11.heap.size, 1, none⟩) CLT.out).trans C17.out.2.1
            have c2 := (HG.out.cell (p := ⟨w11.heap.size, 2, none⟩) CLT.out).trans C17.out.2.2
            go_wp2_with fail
            clear c0 c1 c2
            refine Calls.mono (der_Arcs (n := .mk 6 c []) (O17.out.1.below HG.out O17.out.2) (by have := O17.out.2; have := HG.out.size; omega)) ?_
            intro e w22 hp
            rw [HAC.out] at hp
            obtain ⟨hb22, AB, cB, rfl, hcB, hmB, hl22⟩ := hp.row
            simp only [Option.getD_some, Option.isSome_some] at hcB hl22 ⊢
            have B22 := Lib.hid (below_then B17.out B17.out.size (kept HG.out hb22))
            have A22 := Lib.hid (A17.out.below (kept HG.out hb22) Z17.out.2.2)
            have L22 := Lib.hid hl22
            have HS22 := Lib.hid (show wr.heap.size ≤ w22.heap.size from hb22.size)
            have hlm : (l.map Int.toNat).length = l.length := List.length_map ..
            rw [hlm] at hcB ⊢
            have HLM := Lib.hid hlm
            clear hp hb22 hl22 hlm
            have d2 : ((l.length : Int) != (l.length : Int)) = false := by simp
            go_wp2
            go_loopw [27] (fun i wr => ∃ q : Nat, q ≤ l.length ∧ i = .int .i64 q ∧ Hid (Below w22.heap.size w22 wr)) (fun i _ => l.length - (intOf i).toNat)
            case atStart => exact ⟨0, Nat.zero_le _, rfl, Lib.hid (Below.refl _ _)⟩
            case round =>
              obtain ⟨k, hk, rfl, HK⟩ := hrel
              rcases Nat.lt_or_ge k l.length with hlt2 | hge2
              · have LQ := L22.out.below HK.out (Nat.le_refl _)
                have AQ := A22.out.below HK.out (by have := Z17.out.2.2; have := HG.out.size; have := HS22.out; omega)
                obtain ⟨b, off, rfl, _, _, hcb⟩ := LQ.num (i := k) (by rw [HLM.out]; exact hlt2)
                obtain ⟨b', off', rfl, _, _, hcb'⟩ := AQ (by rw [ints_length]; omega)
                have x0 := hcb k (by rw [HLM.out]; exact hlt2)
                have y0 := hcb' k (by rw [ints_length]; exact hlt2)
                have ex : (((l.map Int.toNat).getD k 0 : Nat) : Int) = l.getD k 0 := by
                  have h1 := HNN.out (l.getD k 0) (by simp [hlt2])
                  simp [hlt2] at h1 ⊢
                  omega
                have ey : (ints l)[k]? = some (.int .i64 (l.getD k 0)) := by simp [ints, hlt2]
                rw [ex] at x0
                rw [ey] at y0
                generalize l.getD k 0 = x at x0 y0
                clear LQ AQ hcb hcb' ex ey
                have hidx : (k : Int) < (l.length : Int) := by omega
                have hz0 : (0 : Int) ≤ (k : Int) := by omega
                have d3 : decide ((k : Int) < (l.length : Int)) = true := decide_eq_true hidx
                have d4 : (x != x) = false := by simp
                go_wp2_with fail
                go_quiet (fail)
                go_wp2
                go_roundw
                case rel => exact ⟨k + 1, hlt2, by go_num, Lib.hid (below_drewN HK.out _)⟩
                case measure => simp [intOf]; omega
              · have d3 : decide ((k : Int) < (l.length : Int)) = false := decide_eq_false (by omega)
                go_wp2
                go_ret
                exact ⟨rfl, below_then B22.out B22.out.size HK.out⟩
end Go.Proofs.Ytanelmmklnpohaa
