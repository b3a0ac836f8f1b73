/-
  Walks of the packages der and its reference: digits, OID.
  Conditions: none beyond the walks' own.
-/
import Derived.Test.YtanelmmklnpohaaDer12
import Derived.Test.YtanelmmklnpohaaArcs
namespace Go.Proofs.Ytanelmmklnpohaa
open Go.RowKit
set_option linter.unusedVariables false
set_option linter.unusedSimpArgs false

theorem i64_and127 (n : Nat) (hn : n < 4611686018427387904) : bits .and .i64 (n : Int) 127 = ((n % 128 : Nat) : Int) := by
  have h1 : (BitVec.ofInt 64 (n : Int)).toNat = n := ofInt_u64 _ (by omega)
  have h2 : (BitVec.ofInt 64 (127 : Int)).toNat = 127 := by decide
  show IntKind.i64.wrap ((BitVec.ofInt 64 (n : Int) &&& BitVec.ofInt 64 (127 : Int)).toNat : Int) = _
  rw [BitVec.toNat_and, h1, h2, show (127 : Nat) = 2 ^ 7 - 1 from rfl, Nat.and_two_pow_sub_one_eq_mod, IntKind.wrap_i64]
  omega
theorem i64_or128 (x : Nat) (hx : x < 128) : bits .or .i64 (x : Int) 128 = ((x + 128 : Nat) : Int) := by
  have h1 : (BitVec.ofInt 64 (x : Int)).toNat = x := ofInt_u64 _ (by omega)
  have h2 : (BitVec.ofInt 64 (128 : Int)).toNat = 128 := by decide
  show IntKind.i64.wrap ((BitVec.ofInt 64 (x : Int) ||| BitVec.ofInt 64 (128 : Int)).toNat : Int) = _
  rw [BitVec.toNat_or, h1, h2, Nat.or_comm, show (128 : Nat) ||| x = 2 ^ 7 * 1 ||| x from rfl, ← Nat.two_pow_add_eq_or_of_lt (by omega : x < 2 ^ 7), IntKind.wrap_i64]
  omega
theorem der_digits (D : Int) (n : Nat) (hD : D = (n : Int)) (hn : n ≤ 268435536) (w : World) :
    Calls Try.prog 41 #[.int .i64 D] w (Rets fun V w' => OwnB w' w.heap.size V (dig7 n) ∧ Below w.heap.size w w') := by
  subst hD
  have ha := i64_and127 n (by omega)
  have O1 := Lib.hid (show OwnB (w.alloc (.cells #[.int .u8 ((n % 128 : Nat) : Int)] 5)) w.heap.size (.slice (some ⟨w.heap.size, 0, none⟩) 1 1) [n % 128] from own_lit1 w w.heap.size 5 _ (Nat.le_refl _))
  have B1 := Lib.hid ((Below.refl w.heap.size w).alloc (Nat.le_refl _) (.cells #[.int .u8 ((n % 128 : Nat) : Int)] 5))
  have hmod : ((n % 128 : Nat) : Int) % 256 = ((n % 128 : Nat) : Int) := by omega
  have hq : (n : Int) / 128 = ((n / 128 : Nat) : Int) := by omega
  have HQ := Lib.hid (show dgl 5 (n / 128) [n % 128] = dig7 n from rfl)
  have HL := Lib.hid (show n / 128 < 128 ^ 5 by omega)
  have hq0 : n / 128 ≤ 268435536 := by omega
  generalize n % 128 = r0 at *
  generalize n / 128 = q0 at *
  go_enter Try.func41, Try.ntmps41
  go_wp2
  clear ha hmod hq
  go_loopw [0, 3] (fun m V wr => ∃ (f q : Nat) (acc : List Nat), m = .int .i64 (q : Int) ∧ q ≤ 268435536 ∧ f ≤ 5 ∧ q < 128 ^ f ∧ acc.length + f ≤ 6 ∧ Hid (OwnB wr w.heap.size V acc) ∧ Hid (Below w.heap.size w wr) ∧ Hid (dgl f q acc = dig7 n)) (fun m _ _ => (intOf m).toNat)
  case atStart => exact ⟨5, q0, [r0], rfl, by omega, by omega, HL.out, by simp, O1, B1, HQ⟩
  case round =>
    obtain ⟨f, q, acc, rfl, hq, hf, hqf, hal, HO, HB, HD⟩ := hrel
    rcases Nat.eq_zero_or_pos q with h0 | h0
    · subst h0
      have HD2 := Lib.hid (show acc = dig7 n by rw [← HD.out, dgl_small _ _ _ rfl])
      go_wp2
      go_ret
      exact Rets.mk ⟨by rw [← HD2.out]; exact HO.out, HB.out⟩
    · obtain ⟨f, rfl⟩ : ∃ f', f = f' + 1 := ⟨f - 1, by
        rcases Nat.eq_zero_or_pos f with e | e
        · subst e; simp at hqf; omega
        · omega⟩
      have ha := i64_and127 q (by omega)
      have ho := i64_or128 (q % 128) (by omega)
      have hm := (show ((q % 128 + 128 : Nat) : Int) % 256 = ((q % 128 + 128 : Nat) : Int) by omega)
      have hd : (q : Int) / 128 = ((q / 128 : Nat) : Int) := by omega
      have HD2 := Lib.hid (show dgl f (q / 128) ((q % 128 + 128) :: acc) = dig7 n by rw [← HD.out, dgl, if_neg (by omega), Nat.add_comm 128])
      have hqf2 : q / 128 < 128 ^ f := by rw [Nat.pow_succ] at hqf; omega
      have hlt : q / 128 < q := by omega
      have d1 : decide (0 < (q : Int)) = true := decide_eq_true (by omega)
      obtain ⟨A, c, hV, hc, hm2⟩ := own_form HO.out
      subst hV
      generalize q % 128 = r1 at *
      generalize hq1 : q / 128 = q1 at *
      go_wp2_with (at_builtin
                   refine wpList_append_rd _ rfl (.tmp 18) (.tmp 19) _ rfl w.heap.size 5 (.int .u8 0) 1 1 Try.underlying22 info_u8 rfl (by omega) (.slice (some ⟨wr.heap.size, 0, none⟩) 1 1) 1 [.int .u8 ((r1 + 128 : Nat) : Int)] rfl (own_lit1 wr w.heap.size 5 _ HB.out.size)
                     w.heap.size wr.heap.size A acc.length c (nums .u8 acc) rfl (by rw [nums_length, Nat.mul_one]) (by exact (own_rd HO.out).alloc (Nat.le_refl _) _) (nums_one _ _) (by simp only [maxLen]; omega) (by omega) (by simp; exact Nat.le_succ_of_le HB.out.size) ?_
                   intro v3 w3 hown3 hg3 hat3 hnil3
                   have HO3 := Lib.hid hown3
                   have HG3 := Lib.hid hg3
                   clear hown3 hg3 hat3 hnil3)
      go_roundw
      case rel =>
        refine ⟨f, q1, (r1 + 128) :: acc, rfl, by omega, by omega, hqf2, by simp; omega, ?_, ?_, HD2⟩
        · have := HO3.out
          unfold OwnB
          rw [List.length_cons, Nat.add_comm acc.length 1]
          exact this
        · exact (HB.out.alloc HB.out.size _).grown HG3.out (by simp; exact Nat.le_succ_of_le HB.out.size) (fun g e => by simp [Value.ownBlock] at e; have := HB.out.size; omega)
      case measure => simp [intOf]; omega

def ints (l : List Int) : List Value := l.map (.int .i64)
theorem ints_length (l : List Int) : (ints l).length = l.length := by simp [ints]
theorem ints_drop (l : List Int) (n : Nat) : ints (l.drop n) = (ints l).drop n := by simp [ints, List.map_drop]
theorem ints_nat (l : List Nat) : nums .i64 l = ints (l.map fun (x : Nat) => (x : Int)) := by simp [nums, ints]
def OIDPost (w : World) (r : Option (List Nat)) (e : Ending) (w' : World) : Prop :=
  Below w.heap.size w w' ∧ ∃ t A1 n1 c1 A2 n2 c2, e = .returned (.tuple #[.agg #[.int .i64 t, .slice A1 n1 c1, .slice A2 n2 c2], .bool r.isSome]) ∧
    (r = none → t = 0 ∧ A1 = none ∧ n1 = 0 ∧ c1 = 0 ∧ A2 = none ∧ n2 = 0 ∧ c2 = 0) ∧ ∀ c, r = some c → RepN w' w.heap.size w'.heap.size (.mk 6 c []) [.int .i64 t, .slice A1 n1 c1, .slice A2 n2 c2]
theorem OIDPost.no {w w' : World} {r : Option (List Nat)} (h : r = none) (hb : Below w.heap.size w w') : OIDPost w r (.returned (.tuple #[.agg #[.int .i64 0, .slice none 0 0, .slice none 0 0], .bool false])) w' := by
  subst h
  exact ⟨hb, 0, none, 0, 0, none, 0, 0, rfl, fun _ => ⟨rfl, rfl, rfl, rfl, rfl, rfl, rfl⟩, fun c e => by cases e⟩
theorem OIDPost.yes {w w' : World} {r : Option (List Nat)} {c : List Nat} {t : Int} {A1 A2 : Option Addr} {n1 c1 n2 c2 : Nat} (h : r = some c) (hb : Below w.heap.size w w')
    (hr : RepN w' w.heap.size w'.heap.size (.mk 6 c []) [.int .i64 t, .slice A1 n1 c1, .slice A2 n2 c2]) : OIDPost w r (.returned (.tuple #[.agg #[.int .i64 t, .slice A1 n1 c1, .slice A2 n2 c2], .bool true])) w' := by
  subst h
  refine ⟨hb, t, A1, n1, c1, A2, n2, c2, rfl, (fun e => by cases e), fun c' e => ?_⟩
  injection e with e
  subst e
  exact hr
theorem all_drop {l : List Int} {q : Nat} (h : q < l.length) : (l.drop q).all okArc = (okArc (l.getD q 0) && (l.drop (q + 1)).all okArc) := by
  rw [List.drop_eq_getElem_cons h, List.all_cons]
  simp [h]
theorem info_i64 : (Try.prog.info? 3).map (fun i => (i.zero, i.size, i.bytes)) = some (some (.int .i64 0), 1, 8) := by kernel_rfl

set_option maxHeartbeats 2000000 in
set_option maxRecDepth 100000 in
theorem der_OID {l : List Int} {A : Option Addr} {c L B : Nat} {w : World} (h : Rd w L B A (ints l)) (hB : B ≤ w.heap.size) (hl : l.length ≤ 100000) (hc : l.length ≤ c) (hcm : c ≤ maxLen) :
    Calls Try.prog 22 #[.slice A l.length c] w (OIDPost w (oidN l)) := by
  have H := Lib.hid h
  clear h
  have B1 := Lib.hid ((Below.refl w.heap.size w).alloc (Nat.le_refl _) (.cells #[.int .i64 0, .slice none 0 0, .slice none 0 0] 25))
  by_cases g1 : l.length < 2
  · have HM := Lib.hid (show oidN l = none by
      rcases l with _ | ⟨a, _ | ⟨b, r⟩⟩
      · rfl
      · rfl
      · simp only [List.length_cons] at g1; omega)
    have d1 : decide ((l.length : Int) < 2) = true := decide_eq_true (by omega)
    go_enter Try.func22, Try.ntmps22
    go_wp2
    refine bodyPost_ret (res_cell2 Try.results22 (g := w.heap.size) rfl (Blk.made rfl)) rfl ?_
    exact OIDPost.no HM.out B1.out
  have d1 : decide ((l.length : Int) < 2) = false := decide_eq_false (by omega)
  obtain ⟨b0, off, rfl, hb1, hb2, hcell⟩ := H.out (by rw [ints_length]; omega)
  have hcl : ∀ j, j < l.length → (w.alloc (.cells #[.int .i64 0, .slice none 0 0, .slice none 0 0] 25)).cell? ⟨b0, off + j, none⟩ = some (.int .i64 (l.getD j 0)) := fun j hj => by
    rw [World.cell?_alloc_lt _ _ _ (show b0 < w.heap.size by omega), hcell j (by rw [ints_length]; exact hj)]
    simp [ints, hj]
  have K1 := Lib.hid (Blk.made (w := w) (v0 := .int .i64 0) (v1 := .slice none 0 0) (v2 := .slice none 0 0) (t := 25) (g := w.heap.size) rfl)
  have H1 := Lib.hid (H.out.alloc hB (.cells #[.int .i64 0, .slice none 0 0, .slice none 0 0] 25))
  have hs1 : (w.alloc (.cells #[.int .i64 0, .slice none 0 0, .slice none 0 0] 25)).heap.size = w.heap.size + 1 := by simp
  have c0 := hcl 0 (by omega)
  have c1 := hcl 1 (by omega)
  rw [Nat.add_zero] at c0
  have HCL := Lib.hid hcl
  have hform : l = l.getD 0 0 :: l.getD 1 0 :: l.drop 2 := by
    rcases l with _ | ⟨a, _ | ⟨b, r⟩⟩
    · simp at g1
    · simp at g1
    · rfl
  have HF := Lib.hid (show oidN l = if 2 < l.getD 0 0 ∨ (l.getD 0 0 < 2 ∧ 39 < l.getD 1 0) then none else if l.all okArc then some (dig7 (40 * l.getD 0 0 + l.getD 1 0).toNat ++ (l.drop 2).flatMap fun x => dig7 x.toNat) else none by
    conv => lhs; rw [hform]
    rw [oidN_two, ← hform])
  have HA0 := Lib.hid (fun h : l.all okArc = true => List.all_eq_true.1 h)
  have HM0 : Hid (l.getD 0 0 ∈ l ∧ l.getD 1 0 ∈ l) := Lib.hid ⟨by rw [hform]; simp, by rw [hform]; simp⟩
  clear hcl hcell hform H
  generalize l.getD 0 0 = a at *
  generalize l.getD 1 0 = b at *
  by_cases g2 : 2 < a
  · have HM := Lib.hid (show oidN l = none by rw [HF.out, if_pos (.inl g2)])
    have d2 : decide (2 < a) = true := decide_eq_true g2
    go_enter Try.func22, Try.ntmps22
    go_wp2
    refine bodyPost_ret (res_cell2 Try.results22 (g := w.heap.size) rfl (Blk.made rfl)) rfl ?_
    exact OIDPost.no HM.out B1.out
  have d2 : decide (2 < a) = false := decide_eq_false g2
  by_cases g3 : a < 2 ∧ 39 < b
  · have HM := Lib.hid (show oidN l = none by rw [HF.out, if_pos (.inr g3)])
    have d3 : decide (a < 2) = true := decide_eq_true g3.1
    have d4 : decide (39 < b) = true := decide_eq_true g3.2
    go_enter Try.func22, Try.ntmps22
    go_wp2
    refine bodyPost_ret (res_cell2 Try.results22 (g := w.heap.size) rfl (Blk.made rfl)) rfl ?_
    exact OIDPost.no HM.out B1.out
  have HF2 := Lib.hid (show oidN l = if l.all okArc then some (dig7 (40 * a + b).toNat ++ (l.drop 2).flatMap fun x => dig7 x.toNat) else none by rw [HF.out, if_neg (by omega)])
  have HG3 := Lib.hid g3
  clear HF
  go_enter Try.func22, Try.ntmps22
  go_upto_region 1 with fail
  go_cut [29] from 9 to 30 (fun t w' => t = .bool false ∧ w' = w.alloc (.cells #[.int .i64 0, .slice none 0 0, .slice none 0 0] 25))
  case first =>
    by_cases g4 : a < 2
    · have d3 : decide (a < 2) = true := decide_eq_true g4
      have d4 : decide (39 < b) = false := decide_eq_false (by omega)
      go_wp2
      go_meet
      exact ⟨rfl, rfl⟩
    · have d3 : decide (a < 2) = false := decide_eq_false g4
      go_wp2
      go_meet
      exact ⟨rfl, rfl⟩
  case rest =>
    obtain ⟨rfl, rfl⟩ := hcut
    generalize w.alloc (.cells #[.int .i64 0, .slice none 0 0, .slice none 0 0] 25) = W1 at *
    go_wp2
    go_loop [33] (fun i => ∃ q : Nat, q ≤ l.length ∧ i = .int .i64 q ∧ Hid (l.all okArc = (l.drop q).all okArc)) (fun i => l.length - (intOf i).toNat)
    case atStart => exact ⟨0, Nat.zero_le _, rfl, Lib.hid (by rw [List.drop_zero])⟩
    case round =>
      obtain ⟨q, hq, rfl, HT⟩ := hrel
      rcases Nat.lt_or_ge q l.length with hqk | hqk
      · have hcq := HCL.out q hqk
        have HT2 := Lib.hid (show l.all okArc = (okArc (l.getD q 0) && (l.drop (q + 1)).all okArc) by rw [HT.out, all_drop hqk])
        clear HT
        generalize l.getD q 0 = v at *
        have hlt : (q : Int) < (l.length : Int) := by omega
        have d2' : decide ((q : Int) < (l.length : Int)) = true := decide_eq_true hlt
        by_cases g4 : v < 0
        · have HM := Lib.hid (show oidN l = none by rw [HF2.out, HT2.out]; simp [okArc]; omega)
          have d5 : decide (v < 0) = true := decide_eq_true g4
          obtain ⟨⟨k0, k1, k2⟩, kf0, kf1, kf2⟩ := K1.out
          go_wp2
          refine bodyPost_ret (res_cell2 Try.results22 (g := w.heap.size) rfl (K1.out.set3 _ _ _)) rfl ?_
          exact OIDPost.no HM.out (below_set3 B1.out (Nat.le_refl _) _ _ _)
        have d5 : decide (v < 0) = false := decide_eq_false g4
        by_cases g5 : 268435456 < v
        · have HM := Lib.hid (show oidN l = none by rw [HF2.out, HT2.out]; simp [okArc]; omega)
          have d6 : decide (268435456 < v) = true := decide_eq_true g5
          obtain ⟨⟨k0, k1, k2⟩, kf0, kf1, kf2⟩ := K1.out
          go_wp2
          refine bodyPost_ret (res_cell2 Try.results22 (g := w.heap.size) rfl (K1.out.set3 _ _ _)) rfl ?_
          exact OIDPost.no HM.out (below_set3 B1.out (Nat.le_refl _) _ _ _)
        have d6 : decide (268435456 < v) = false := decide_eq_false g5
        have HT3 := Lib.hid (show l.all okArc = (l.drop (q + 1)).all okArc by
          rw [HT2.out]
          have : okArc v = true := by unfold okArc; rw [decide_eq_true (by omega), decide_eq_true (by omega)]; rfl
          rw [this, Bool.true_and])
        go_wp2
        go_round
        case rel => exact ⟨q + 1, hqk, by go_num, HT3⟩
        case measure => simp [intOf]; omega
      · obtain rfl : q = l.length := by omega
        have hall := (show l.all okArc = true by rw [HT.out, List.drop_length]; rfl)
        have HM := Lib.hid (show oidN l = some (dig7 (40 * a + b).toNat ++ (l.drop 2).flatMap fun x => dig7 x.toNat) by rw [HF2.out, hall]; rfl)
        have HOK := Lib.hid (HA0.out hall)
        have hka : 0 ≤ a ∧ a ≤ 268435456 := by have := HOK.out a HM0.out.1; simpa [okArc] using this
        have hkb : 0 ≤ b ∧ b ≤ 268435456 := by have := HOK.out b HM0.out.2; simpa [okArc] using this
        clear hall HT
        have hi0 : (0 : Int) < (l.length : Int) := by omega
        have hi1 : (1 : Int) < (l.length : Int) := by omega
        have hw1 : IntKind.i64.wrap (40 * a) = 40 * a := by rw [IntKind.wrap_i64]; omega
        have hw2 : IntKind.i64.wrap (40 * a + b) = 40 * a + b := by rw [IntKind.wrap_i64]; omega
        have hz0 : 0 < l.length := by omega
        have hz1 : 1 < l.length := by omega
        generalize hN : l.length = N at hi0 hi1 hz0 hz1 ⊢
        have HNN := Lib.hid hN
        clear hN
        go_wp2_with fail
        go_still_tail 8, (by kernel_rfl)
        obtain rfl : l.length = N := HNN.out
        clear HNN
        change wpList _ _ _ _ _ W1.drew
        have KD := Lib.hid (K1.out.kept (w' := W1.drew) rfl)
        have BD := Lib.hid B1.out.drew
        have HD1 := Lib.hid H1.out.drew
        have hsd : W1.drew.heap.size = w.heap.size + 1 := hs1
        have HCD := Lib.hid (show ∀ j, j < l.length → W1.drew.cell? ⟨b0, off + j, none⟩ = some (.int .i64 (l.getD j 0)) from HCL.out)
        generalize W1.drew = W2 at KD BD HD1 hsd HCD ⊢
        clear c0 c1 HCL K1 B1 H1 hs1
        have SD := Lib.hid hsd
        clear hsd
        go_wp2_with fail
        refine Calls.mono (der_digits _ (40 * a + b).toNat (by omega) (by omega) W2) ?_
        rintro e w3 ⟨V3, rfl, ho3, hb3⟩
        obtain ⟨A3, c3, rfl, hc3, hm3⟩ := own_form ho3
        have hsd := SD.out
        have HO3 := Lib.hid (own_less (show w3.ownsRow W2.heap.size 5 1 (.slice A3 (dig7 (40 * a + b).toNat).length c3) (dig7 (40 * a + b).toNat).length (nums .u8 (dig7 (40 * a + b).toNat)) from ho3) (show w.heap.size + 1 ≤ W2.heap.size by omega))
        have KD3 := Lib.hid (KD.out.below hb3 KD.out.lt)
        have BD3 := Lib.hid (below_then BD.out (by omega) hb3)
        have HD3 := Lib.hid (HD1.out.below hb3 (by omega))
        have HS3 := Lib.hid (show w.heap.size + 1 ≤ w3.heap.size by have := hb3.size; omega)
        obtain ⟨i, hi, hsz⟩ : ∃ i, Try.prog.info? 3 = some i ∧ i.size = 1 := by
          obtain ⟨i, h1, h2, h3, h4⟩ := info_parts info_i64
          exact ⟨i, h1, h3⟩
        obtain ⟨A4, hcut4, hrd4⟩ := cut_from (P := Try.prog) 39 3 .i64 Try.underlying39 hi hsz (some ⟨b0, off, none⟩) l.length c 2 (by omega) hc
        have HR4 := Lib.hid (show Rd w3 L B A4 (ints (l.drop 2)) by
          have := hrd4 w3 L B (ints l) (ints_length _) HD3.out
          rw [ints_drop]; exact this)
        have hl4 : (l.drop 2).length = l.length - 2 := List.length_drop
        have HOK2 := Lib.hid (show ∀ x ∈ l.drop 2, 0 ≤ x ∧ x ≤ 268435456 from fun x hx => by have := HOK.out x (List.mem_of_mem_drop hx); simpa [okArc] using this)
        generalize hd0 : dig7 (40 * a + b).toNat = acc0 at *
        have hacc0 : acc0.length ≤ 6 := by rw [← hd0]; exact (dig7_len _).1
        clear hrd4 ho3 hb3 hd0 hsd
        rw [show ((2 : Nat) : Int) = 2 from rfl] at hcut4
        generalize l.drop 2 = r at *
        rw [← hl4] at hcut4
        have HLR := Lib.hid (show r.length ≤ 99998 by omega)
        clear hl4
        go_wp2
        clear hcut4 SD
        go_loopg [57, 6] (r.length) (fun gg iv V wr => ∃ (q : Nat) (acc : List Nat), q + gg = r.length ∧ iv = .int .i64 q ∧ acc.length ≤ 6 + 6 * q ∧ Hid (OwnB wr (w.heap.size + 1) V acc) ∧ Hid (Below w.heap.size w wr) ∧ Hid (w.heap.size + 1 ≤ wr.heap.size) ∧
          Hid (acc ++ (r.drop q).flatMap (fun x => dig7 x.toNat) = acc0 ++ r.flatMap fun x => dig7 x.toNat) ∧ Hid (Blk wr w.heap.size (.int .i64 0) (.slice none 0 0) (.slice none 0 0)) ∧ Hid (Rd wr L B A4 (ints r)))
        case atStart => exact ⟨0, acc0, by omega, rfl, by omega, HO3, BD3, HS3, Lib.hid (by rw [List.drop_zero]), KD3, HR4⟩
        case round =>
          obtain ⟨q, acc, hq, rfl, hal, HO, HB, HS, HT, HK, HR⟩ := hrel
          clear HR4 KD3 HS3 BD3 HO3 HD3
          obtain ⟨A5, c5, hV5, hc5, hm5⟩ := own_form HO.out
          subst hV5
          rcases gk with _ | g'
          rotate_left
          · have hqk : q < r.length := by omega
            obtain ⟨b4, off4, rfl, hb4, hb5, hcell4⟩ := HR.out (by rw [ints_length]; omega)
            have hcq := hcell4 q (by rw [ints_length]; exact hqk)
            rw [show (ints r)[q]? = some (.int .i64 (r.getD q 0)) from by simp [ints, hqk]] at hcq
            have hok := HOK2.out (r.getD q 0) (by simp [hqk])
            have HT2 := Lib.hid (show acc ++ dig7 (r.getD q 0).toNat ++ (r.drop (q + 1)).flatMap (fun x => dig7 x.toNat) = acc0 ++ r.flatMap fun x => dig7 x.toNat by
              rw [← HT.out, List.drop_eq_getElem_cons hqk, List.flatMap_cons, List.append_assoc]
              simp [hqk])
            clear hcell4 HT
            generalize r.getD q 0 = v at *
            have hlt : (q : Int) < (r.length : Int) := by omega
            have dlt : decide ((q : Int) < (r.length : Int)) = true := decide_eq_true hlt
            go_wp2_with fail
            refine Calls.mono (der_digits _ v.toNat (by omega) (by omega) wr) ?_
            rintro e w5 ⟨V5, rfl, ho5, hb5'⟩
            obtain ⟨A6, c6, rfl, hc6, hm6⟩ := own_form ho5
            have hd7 := (dig7_len v.toNat).1
            generalize dig7 v.toNat = ds at *
            have HO6 := Lib.hid ho5
            have HO7 := Lib.hid (own_below HO.out hb5')
            have HB7 := Lib.hid (below_then HB.out HB.out.size hb5')
            have HS7 := Lib.hid (Nat.le_trans HS.out hb5'.size)
            have HK7 := Lib.hid (HK.out.below hb5' HK.out.lt)
            have HR7 := Lib.hid (HR.out.below hb5' (by have := HS.out; omega))
            clear ho5 hb5' HO HB HS HK HR
            have hqr := HLR.out
            go_wp2_with (at_builtin
                         refine wpList_append_rd _ rfl (.tmp 61) (.tmp 63) _ rfl (w.heap.size + 1) 5 (.int .u8 0) 1 1 Try.underlying22 info_u8 rfl (by omega) (.slice A5 acc.length c5) _ _ rfl HO7.out
                           wr.heap.size w5.heap.size A6 ds.length c6 (nums .u8 ds) rfl (by rw [nums_length, Nat.mul_one]) (by exact own_rd HO6.out) (nums_one _ _) (by simp only [maxLen]; omega) (by omega) HS7.out ?_
                         intro v8 w8 hown8 hg8 hat8 hnil8
                         have HO8 := Lib.hid hown8
                         have HG8 := Lib.hid hg8
                         clear hown8 hg8 hat8 hnil8)
            go_roundg g'
            case rel =>
              have hrow : ∀ g, (Value.slice A5 acc.length c5).ownBlock = some g → w.heap.size + 1 ≤ g := own_base HO7.out
              refine ⟨q + 1, acc ++ ds, by omega, by go_num, by rw [List.length_append]; omega, ?_, ?_, ?_, HT2, ?_, ?_⟩
              · unfold OwnB; rw [List.length_append, nums_append]; exact HO8
              · exact HB7.out.grown HG8.out (by have := HS7.out; omega) (fun g e => by have := hrow g e; omega)
              · exact Nat.le_trans HS7.out HG8.out.size
              · exact HK7.out.grown HG8.out (fun e => by have := hrow _ e.symm; omega)
              · exact HR7.out.grown HG8.out (by have := HS7.out; omega) (fun g e => .inr (by have := hrow g e; omega))
            case measure => omega
          · obtain rfl : q = r.length := by omega
            have HM2 := Lib.hid (show oidN l = some acc by rw [HM.out, ← HT.out, List.drop_length]; simp)
            obtain ⟨⟨k0, k1, k2⟩, kf0, kf1, kf2⟩ := HK.out
            have hdig := Lib.hid (oid_name HM2.out).2.1
            go_wp2
            refine bodyPost_ret (res_cell2 Try.results22 (g := w.heap.size) rfl (HK.out.set3 _ _ _)) rfl ?_
            refine OIDPost.yes HM2.out (below_set3 HB.out (Nat.le_refl _) _ _ _) ?_
            exact RepN.leaf (base := w.heap.size + 1) (by omega) (by rw [size_set3]; have := HS.out; omega) (own_set3 HO.out (by omega) _ _ _) hdig.out (by have := HLR.out; omega) (fun e => by omega)
end Go.Proofs.Ytanelmmklnpohaa
