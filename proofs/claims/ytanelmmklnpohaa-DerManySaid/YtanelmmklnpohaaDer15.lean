/-
  Walks of the packages der and its reference: Arcs.
  Conditions: none beyond the walks' own.
-/
import Derived.Test.YtanelmmklnpohaaDer14
namespace Go.Proofs.Ytanelmmklnpohaa
open Go.RowKit
set_option linter.unusedVariables false
set_option linter.unusedSimpArgs false

theorem i64_or_shift7 (n x : Nat) (hn : n < 4294967296) (hx : x < 128) : bits .or .i64 ((n : Int) * 128) (x : Int) = ((n * 128 + x : Nat) : Int) := by
  have e : (n : Int) * 128 = ((n * 128 : Nat) : Int) := by omega
  rw [e]
  have h1 : (BitVec.ofInt 64 ((n * 128 : Nat) : Int)).toNat = n * 128 := ofInt_u64 _ (by omega)
  have h2 : (BitVec.ofInt 64 (x : Int)).toNat = x := ofInt_u64 _ (by omega)
  show IntKind.i64.wrap ((BitVec.ofInt 64 ((n * 128 : Nat) : Int) ||| BitVec.ofInt 64 (x : Int)).toNat : Int) = _
  rw [BitVec.toNat_or, h1, h2, Nat.mul_comm n 128, show (128 : Nat) = 2 ^ 7 from rfl, ← Nat.two_pow_add_eq_or_of_lt (i := 7) hx, IntKind.wrap_i64]
  omega
theorem u8_and127 (x : Nat) (hx : x < 256) : bits .and .u8 (x : Int) 127 = ((x % 128 : Nat) : Int) := by
  have h1 : (BitVec.ofInt 8 (x : Int)).toNat = x := by rw [BitVec.toNat_ofInt]; omega
  have h2 : (BitVec.ofInt 8 (127 : Int)).toNat = 127 := by decide
  show IntKind.u8.wrap ((BitVec.ofInt 8 (x : Int) &&& BitVec.ofInt 8 (127 : Int)).toNat : Int) = _
  rw [BitVec.toNat_and, h1, h2, show (127 : Nat) = 2 ^ 7 - 1 from rfl, Nat.and_two_pow_sub_one_eq_mod, IntKind.wrap_u8]
  omega
def arcsOf : Nd → Option (List Nat)
  | .mk t b ks => if t = 6 then (if MayN (.mk t b ks) then ArcsN b else none) else none
def ArcsPost (w : World) (r : Option (List Nat)) (e : Ending) (w' : World) : Prop :=
  Below w.heap.size w w' ∧ ∃ A n c, e = .returned (.tuple #[.slice A n c, .bool r.isSome]) ∧ (r = none → A = none ∧ n = 0 ∧ c = 0) ∧ ∀ l, r = some l → n = l.length ∧ l.length ≤ c ∧ c ≤ maxLen ∧ Rd w' w.heap.size w'.heap.size A (nums .i64 l)
theorem ArcsPost.no {w w' : World} {r : Option (List Nat)} (h : r = none) (hb : Below w.heap.size w w') : ArcsPost w r (.returned (.tuple #[.slice none 0 0, .bool false])) w' := by
  subst h
  exact ⟨hb, none, 0, 0, rfl, fun _ => ⟨rfl, rfl, rfl⟩, fun l e => by cases e⟩
theorem ArcsPost.yes {w w' : World} {r : Option (List Nat)} {l : List Nat} {A : Option Addr} {n c : Nat} (h : r = some l) (hb : Below w.heap.size w w') (hn : n = l.length) (h1 : l.length ≤ c) (h2 : c ≤ maxLen) (h3 : Rd w' w.heap.size w'.heap.size A (nums .i64 l)) :
    ArcsPost w r (.returned (.tuple #[.slice A n c, .bool true])) w' := by
  subst h
  refine ⟨hb, A, n, c, rfl, (fun e => by cases e), fun l' e => ?_⟩
  injection e with e
  subst e
  exact ⟨hn, h1, h2, h3⟩
def OwnI (w : World) (base : Nat) (V : Value) (l : List Nat) : Prop := w.ownsRow base 3 1 V l.length (nums .i64 l)

set_option maxHeartbeats 2000000 in
set_option maxRecDepth 100000 in
theorem der_Arcs {n : Nd} {cs : List Value} {L B : Nat} {w : World} (h : RepN w L B n cs) (hB : B ≤ w.heap.size) :
    Calls Try.prog 24 #[.agg cs.toArray] w (ArcsPost w (arcsOf n)) := by
  have HREP := Lib.hid h
  obtain ⟨t, b, ks⟩ := n
  unfold RepN at h
  obtain ⟨A, c, A', c', rfl, h1, h2, h3, h4, ⟨hbl, hkl⟩, h5, h6, h7, h8⟩ := h
  have H1 := Lib.hid (HREP.out.alloc hB (.cells #[.int .i64 t, .slice A b.length c, .slice A' ks.length c'] 25))
  have K1 := Lib.hid (Blk.made (w := w) (v0 := .int .i64 t) (v1 := .slice A b.length c) (v2 := .slice A' ks.length c') (t := 25) (g := w.heap.size) rfl)
  have B1 := Lib.hid ((Below.refl w.heap.size w).alloc (Nat.le_refl _) (.cells #[.int .i64 t, .slice A b.length c, .slice A' ks.length c'] 25))
  have hs1 : (w.alloc (.cells #[.int .i64 t, .slice A b.length c, .slice A' ks.length c'] 25)).heap.size = w.heap.size + 1 := by simp
  have H7 := Lib.hid h7
  have H6 := Lib.hid h6
  clear h5 h6 h7 h8 HREP
  by_cases g : t = 6
  · have d1 : (t != 6) = false := by simp [g]
    have HN := Lib.hid (show arcsOf (.mk t b ks) = if MayN (.mk t b ks) then ArcsN b else none by simp only [arcsOf]; rw [if_pos g])
    clear g
    go_enter Try.func24, Try.ntmps24
    go_wp2_with fail
    generalize w.alloc (.cells #[.int .i64 t, .slice A b.length c, .slice A' ks.length c'] 25) = W1 at *
    have S1 := Lib.hid hs1
    refine Calls.mono (der_May H1.out (by omega)) ?_
    rintro e w2 ⟨rfl, hb2⟩
    have K2 := Lib.hid (K1.out.below hb2 K1.out.lt)
    have B2 := Lib.hid (below_then B1.out (by omega) hb2)
    have S2 := Lib.hid (show w.heap.size + 1 ≤ w2.heap.size by have := hb2.size; omega)
    clear hb2 hs1
    obtain ⟨⟨k0, k1, k2⟩, kf0, kf1, kf2⟩ := K2.out
    cases hm : MayN (.mk t b ks) with
    | false =>
      go_wp2
      go_ret2
      exact ArcsPost.no (by rw [HN.out, hm]; rfl) B2.out
    | true =>
      have HR2 := Lib.hid (H7.out.below B2.out hB)
      have HM := Lib.hid (show arcsOf (.mk t b ks) = ArcsN b by rw [HN.out, hm]; rfl)
      go_wp2
      clear k0 k1 k2 kf0 kf1 kf2 hm HN
      go_loopg [20, 4, 5] (b.length) (fun gg iv V vv wr => ∃ (q : Nat) (ls : List Nat) (v : Nat), q + gg = b.length ∧ iv = .int .i64 q ∧ vv = .int .i64 v ∧ v ≤ 268435536 ∧ ls.length ≤ 2 * q ∧ Hid (OwnI wr (w.heap.size + 1) V ls) ∧ Hid (Below w.heap.size w wr) ∧ Hid (w.heap.size + 1 ≤ wr.heap.size) ∧
        Hid (ArcsN b = arcsGo true (b.drop q) ls v) ∧ Hid (Rd wr L B A (nums .u8 b)))
      case atStart => exact ⟨0, [], 0, by omega, rfl, rfl, by omega, by simp, World.ownsRow_nil _ _ _ _, B2, S2, Lib.hid (by rw [List.drop_zero]; rfl), HR2⟩
      case round =>
        obtain ⟨q, ls, v, hq, rfl, rfl, hv, hls, HO, HB, HS, HT, HR⟩ := hrel
        obtain ⟨A5, c5, hV5, hc5, hm5⟩ := own_form HO.out
        subst hV5
        rcases gk with _ | g'
        · obtain rfl : q = b.length := by omega
          have HM2 := Lib.hid (show arcsOf (.mk t b ks) = some ls by rw [HM.out, HT.out, List.drop_length]; rfl)
          go_wp2
          go_ret2
          exact ArcsPost.yes HM2.out HB.out rfl hc5 hm5 ((own_rd HO.out).wide (by omega) (Nat.le_refl _))
        obtain ⟨bb, off, rfl, hb1, hb2, hcell⟩ := HR.out.num (i := 0) (by omega)
        have hx := hcell q (by omega)
        have hx256 := H6.out.get (by omega) q
        have HTx := Lib.hid (show ArcsN b = arcsGo true (b.getD q 0 :: b.drop (q + 1)) ls v by
          rw [HT.out, List.drop_eq_getElem_cons (show q < b.length by omega)]
          simp [show q < b.length by omega])
        generalize b.getD q 0 = x at hx hx256 HTx
        clear hcell HT
        have HT1 := Lib.hid (show arcsOf (.mk t b ks) = if 268435536 < v * 128 + x % 128 then none
          else if 128 ≤ x then arcsGo true (b.drop (q + 1)) ls (v * 128 + x % 128)
          else if ls.length = 0 then
            (if 268435456 < (v * 128 + x % 128) - 40 * min ((v * 128 + x % 128) / 40) 2 then none
             else arcsGo true (b.drop (q + 1)) [min ((v * 128 + x % 128) / 40) 2, (v * 128 + x % 128) - 40 * min ((v * 128 + x % 128) / 40) 2] 0)
          else if 268435456 < v * 128 + x % 128 then none
          else arcsGo true (b.drop (q + 1)) (ls ++ [v * 128 + x % 128]) 0 by
            rw [HM.out, HTx.out, arcsGo]
            simp only [true_and])
        have hand := u8_and127 x hx256
        have hor := i64_or_shift7 v (x % 128) (by omega) (by omega)
        have hm2 : ((x % 128 : Nat) : Int) % 256 = ((x % 128 : Nat) : Int) := by omega
        have hlt : (q : Int) < (b.length : Int) := by omega
        have dlt : decide ((q : Int) < (b.length : Int)) = true := decide_eq_true hlt
        have hqb : q < b.length := by omega
        have hdrop : (b.drop (q + 1)).length = b.length - (q + 1) := List.length_drop
        generalize hn : v * 128 + x % 128 = n at hor HT1
        generalize x % 128 = y at hand hor hm2
        clear hn hdrop
        by_cases g1 : 268435536 < n
        · have HM2 := Lib.hid (show arcsOf (.mk t b ks) = none by rw [HT1.out, if_pos g1])
          have d2 : decide (268435536 < (n : Int)) = true := decide_eq_true (by omega)
          go_wp2
          go_ret2
          exact ArcsPost.no HM2.out HB.out
        have d2 : decide (268435536 < (n : Int)) = false := decide_eq_false (by omega)
        have HT2 := Lib.hid (HT1.out.trans (if_neg g1))
        by_cases g2 : 128 ≤ x
        · have HT3 := Lib.hid (HM.out.symm.trans (HT2.out.trans (if_pos g2)))
          have d3 : decide (128 ≤ (x : Int)) = true := decide_eq_true (by omega)
          go_wp2
          go_roundg g'
          case rel => exact ⟨q + 1, ls, n, by omega, by go_num, rfl, by omega, by omega, HO, HB, HS, HT3, HR⟩
          case measure => omega
        have d3 : decide (128 ≤ (x : Int)) = false := decide_eq_false (by omega)
        have HT3 := Lib.hid (HT2.out.trans (if_neg g2))
        clear HT1 HT2 HTx
        by_cases g3 : ls.length = 0
        · have HT4 := Lib.hid (HT3.out.trans (if_pos g3))
          have d4 : ((ls.length : Int) == 0) = true := by rw [beq_iff_eq]; omega
          have G3 := Lib.hid g3
          clear g3
          have hmin : min ((n : Int) / 40) 2 = ((min (n / 40) 2 : Nat) : Int) := by omega
          have hsub : (n : Int) - 40 * ((min (n / 40) 2 : Nat) : Int) = ((n - 40 * min (n / 40) 2 : Nat) : Int) := by omega
          have hm0 : min (n / 40) 2 ≤ 2 := by omega
          have hn1 : n - 40 * min (n / 40) 2 ≤ 268435536 := by omega
          generalize n - 40 * min (n / 40) 2 = n1 at *
          generalize min (n / 40) 2 = m0 at *
          by_cases g4 : 268435456 < n1
          · have HM2 := Lib.hid (show arcsOf (.mk t b ks) = none from HT4.out.trans (if_pos g4))
            have d5 : decide (268435456 < (n1 : Int)) = true := decide_eq_true (by omega)
            clear g4
            go_wp2_with (first
              | (at_builtin
                 refine wpList_append_lit (w0 := wr) rfl (.tmp 40) (.tmp 42) _ rfl (w.heap.size + 1) 3 (.int .i64 0) 8 Try.underlying39 info_i64 rfl (.slice A5 ls.length c5) _ _ (.int .i64 ((m0 : Nat) : Int)) rfl HO.out
                   wr.heap.size rfl rfl (by rfl) (by simp only [maxLen]; omega) (by omega) HS.out (Below.refl _ _) ?_
                 intro v6 w6 hown6 hbel6 hg6 hat6
                 obtain ⟨A6, c6, hV6, hc6, hm6⟩ := own_form hown6
                 subst hV6
                 have HO6 := Lib.hid hown6
                 have HS6 := Lib.hid (Nat.le_trans HS.out hg6.size)
                 have HB6 := Lib.hid (HB.out.grown hg6 HB.out.size (fun g e => by have := own_base HO.out g e; omega))
                 have HR6 := Lib.hid (HR.out.grown hg6 (by have := HS.out; omega) (fun g e => .inr (by have := own_base HO.out g e; omega)))
                 clear hown6 hbel6 hg6 hat6))
            go_ret2
            exact ArcsPost.no HM2.out HB6.out
          · have HT5 := Lib.hid (HM.out.symm.trans (HT4.out.trans (if_neg g4)))
            have d5 : decide (268435456 < (n1 : Int)) = false := decide_eq_false (by omega)
            go_wp2_with (first
              | (at_builtin
                 refine wpList_append_lit (w0 := wr) rfl (.tmp 40) (.tmp 42) _ rfl (w.heap.size + 1) 3 (.int .i64 0) 8 Try.underlying39 info_i64 rfl (.slice A5 ls.length c5) _ _ (.int .i64 ((m0 : Nat) : Int)) rfl HO.out
                   wr.heap.size rfl rfl (by rfl) (by simp only [maxLen]; omega) (by omega) HS.out (Below.refl _ _) ?_
                 intro v6 w6 hown6 hbel6 hg6 hat6
                 obtain ⟨A6, c6, hV6, hc6, hm6⟩ := own_form hown6
                 subst hV6
                 have HO6 := Lib.hid hown6
                 have HS6 := Lib.hid (Nat.le_trans HS.out hg6.size)
                 have HB6 := Lib.hid (HB.out.grown hg6 HB.out.size (fun g e => by have := own_base HO.out g e; omega))
                 have HR6 := Lib.hid (HR.out.grown hg6 (by have := HS.out; omega) (fun g e => .inr (by have := own_base HO.out g e; omega)))
                 clear hown6 hbel6 hg6 hat6)
              | (at_builtin
                 refine wpList_append_lit (w0 := w6) rfl (.tmp 50) (.tmp 52) _ rfl (w.heap.size + 1) 3 (.int .i64 0) 8 Try.underlying39 info_i64 rfl (.slice A6 (ls.length + 1) c6) _ _ (.int .i64 ((n1 : Nat) : Int)) rfl HO6.out
                   w6.heap.size rfl rfl (by rfl) (by simp only [maxLen]; omega) (by omega) HS6.out (Below.refl _ _) ?_
                 intro v7 w7 hown7 hbel7 hg7 hat7
                 obtain ⟨A7, c7, hV7, hc7, hm7⟩ := own_form hown7
                 subst hV7
                 have HO7 := Lib.hid hown7
                 have HS7 := Lib.hid (Nat.le_trans HS6.out hg7.size)
                 have HB7 := Lib.hid (HB6.out.grown hg7 HB6.out.size (fun g e => by have := own_base HO6.out g e; omega))
                 have HR7 := Lib.hid (HR6.out.grown hg7 (by have := HS6.out; omega) (fun g e => .inr (by have := own_base HO6.out g e; omega)))
                 clear hown7 hbel7 hg7 hat7))
            go_roundg g'
            case rel =>
              refine ⟨q + 1, [m0, n1], 0, by omega, by go_num, rfl, by omega, by simp; omega, ?_, HB7, HS7, HT5, HR7⟩
              have := HO7.out
              have hls : ls = [] := List.eq_nil_of_length_eq_zero G3.out
              subst hls
              exact this
            case measure => omega
        · have HT4 := Lib.hid (HT3.out.trans (if_neg g3))
          have d4 : ((ls.length : Int) == 0) = false := by rw [beq_eq_false_iff_ne]; omega
          by_cases g4 : 268435456 < n
          · have HM2 := Lib.hid (show arcsOf (.mk t b ks) = none from HT4.out.trans (if_pos g4))
            have d5 : decide (268435456 < (n : Int)) = true := decide_eq_true (by omega)
            go_wp2
            go_ret2
            exact ArcsPost.no HM2.out HB.out
          · have HT5 := Lib.hid (HM.out.symm.trans (HT4.out.trans (if_neg g4)))
            have d5 : decide (268435456 < (n : Int)) = false := decide_eq_false (by omega)
            go_wp2_with (first
              | (at_builtin
                 refine wpList_append_lit (w0 := wr) rfl (.tmp 50) (.tmp 52) _ rfl (w.heap.size + 1) 3 (.int .i64 0) 8 Try.underlying39 info_i64 rfl (.slice A5 ls.length c5) _ _ (.int .i64 ((n : Nat) : Int)) rfl HO.out
                   wr.heap.size rfl rfl (by rfl) (by simp only [maxLen]; omega) (by omega) HS.out (Below.refl _ _) ?_
                 intro v7 w7 hown7 hbel7 hg7 hat7
                 obtain ⟨A7, c7, hV7, hc7, hm7⟩ := own_form hown7
                 subst hV7
                 have HO7 := Lib.hid hown7
                 have HS7 := Lib.hid (Nat.le_trans HS.out hg7.size)
                 have HB7 := Lib.hid (HB.out.grown hg7 HB.out.size (fun g e => by have := own_base HO.out g e; omega))
                 have HR7 := Lib.hid (HR.out.grown hg7 (by have := HS.out; omega) (fun g e => .inr (by have := own_base HO.out g e; omega)))
                 clear hown7 hbel7 hg7 hat7))
            go_roundg g'
            case rel =>
              refine ⟨q + 1, ls ++ [n], 0, by omega, by go_num, rfl, by omega, by rw [List.length_append]; simp; omega, ?_, HB7, HS7, HT5, HR7⟩
              have := HO7.out
              unfold OwnI
              rw [List.length_append, nums_append]
              exact this
            case measure => omega
  · have d1 : (t != 6) = true := by rw [bne_iff_ne]; exact g
    go_enter Try.func24, Try.ntmps24
    go_wp2
    go_ret2
    exact ArcsPost.no (by simp only [arcsOf]; rw [if_neg g]) B1.out
end Go.Proofs.Ytanelmmklnpohaa
