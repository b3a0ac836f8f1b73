/-
  Walks of the packages der and its reference: Int, Nat.
  Conditions: none beyond the walks' own.
-/
import Derived.Test.YtanelmmklnpohaaDer11
namespace Go.Proofs.Ytanelmmklnpohaa
open Go.RowKit
set_option linter.unusedVariables false
set_option linter.unusedSimpArgs false

def IntN (v : Nat) : Nd := .mk 2 (bebytes (blen v / 8 + 1) v) []
def NodeRet (w : World) (n : Nd) (e : Ending) (w' : World) : Prop :=
  Below w.heap.size w w' ∧ ∃ t A1 n1 c1 A2 n2 c2, e = .returned (.agg #[.int .i64 t, .slice A1 n1 c1, .slice A2 n2 c2]) ∧ RepN w' w.heap.size w'.heap.size n [.int .i64 t, .slice A1 n1 c1, .slice A2 n2 c2]
theorem res_cell1 {fn : Func} {s : Tmp} (hf : fn.results = #[.cell s 25]) {tmps : Array Value} {w : World} {g : Nat} {v0 v1 v2 : Value} (ht : tmps.getD s undef = .pointer (some ⟨g, 0, none⟩)) (h : Blk w g v0 v1 v2) :
    (results fn tmps).run Try.prog w = .ok (.agg #[v0, v1, v2]) w := by
  obtain ⟨⟨a, b, c⟩, d, e, f⟩ := h
  have ht' : tmps[s]?.getD undef = .pointer (some ⟨g, 0, none⟩) := by simpa using ht
  simp [results, hf, go_sem, a, b, c, ht']
theorem res_cell2 {fn : Func} {s t : Tmp} (hf : fn.results = #[.cell s 25, .tmp t]) {tmps : Array Value} {w : World} {g : Nat} {v0 v1 v2 : Value} (ht : tmps.getD s undef = .pointer (some ⟨g, 0, none⟩)) (h : Blk w g v0 v1 v2) :
    (results fn tmps).run Try.prog w = .ok (.tuple #[.agg #[v0, v1, v2], tmps.getD t undef]) w := by
  obtain ⟨⟨a, b, c⟩, d, e, f⟩ := h
  have ht' : tmps[s]?.getD undef = .pointer (some ⟨g, 0, none⟩) := by simpa using ht
  simp [results, hf, go_sem, a, b, c, ht']
/-- A leaf of bytes in a row of the call's own. -/
theorem RepN.leaf {w : World} {base L c : Nat} {A : Option Addr} {t : Int} {b : List Nat} (hL : L ≤ base) (hw : L ≤ w.heap.size) (h : OwnB w base (.slice A b.length c) b) (hd : Dig 256 b) (hl : b.length ≤ 1048576) (h4 : t = 48 → b = [] → A = none ∧ c = 0) :
    RepN w L w.heap.size (.mk t b []) [.int .i64 t, .slice A b.length c, .slice none 0 0] := by
  obtain ⟨A2, c2, e2, hc2, hm2⟩ := own_form h
  injection e2 with e3 _ e5
  subst e3 e5
  exact RepN.of_kids (lo := w.heap.size) (base := w.heap.size) (ks := []) (cs := []) hw hw (by unfold KidsOk; rfl) (World.ownsRow_nil _ _ _ _) (by simp) hc2 hm2 hl h4 hd ((own_rd h).wide hL (Nat.le_refl _))

theorem der_Int {w : World} {L B v : Nat} {V : Value} (h : Num w L B (2 ^ 64) v V) (hB : B ≤ w.heap.size) (hv : blen v ≤ 100000) :
    Calls Try.prog 19 #[V] w (NodeRet w (IntN v)) := by
  have H := Lib.hid h
  clear h
  have H1 := Lib.hid (H.out.below ((Below.refl w.heap.size w).alloc (Nat.le_refl _) (.cells #[.int .i64 0, .slice none 0 0, .slice none 0 0] 25)) hB)
  have K1 := Lib.hid (Blk.made (w := w) (v0 := .int .i64 0) (v1 := .slice none 0 0) (v2 := .slice none 0 0) (t := 25) (g := w.heap.size) rfl)
  have B1 := Lib.hid ((Below.refl w.heap.size w).alloc (Nat.le_refl _) (.cells #[.int .i64 0, .slice none 0 0, .slice none 0 0] 25))
  have hs1 : (w.alloc (.cells #[.int .i64 0, .slice none 0 0, .slice none 0 0] 25)).heap.size = w.heap.size + 1 := by simp
  go_enter Try.func19, Try.ntmps19
  go_wp2_with fail
  generalize w.alloc (.cells #[.int .i64 0, .slice none 0 0, .slice none 0 0] 25) = W1 at *
  have S1 := Lib.hid hs1
  refine Calls.mono (limb_bits H1.out) ?_
  rintro e w' ⟨rfl, rfl⟩
  go_wp2_with fail
  refine Calls.mono (limb_bytes_int _ (blen v / 8 + 1) (by omega) (by exact H1.out) (by omega) (by omega) (by omega)) ?_
  rintro e w2 ⟨V2, u2, rfl, rfl, rfl, ho2, hb2⟩
  have HO2 := Lib.hid (show OwnB w2 W1.heap.size (.slice (some ⟨W1.heap.size, 0, none⟩) (bebytes (blen v / 8 + 1) v).length (blen v / 8 + 1)) (bebytes (blen v / 8 + 1) v) by unfold OwnB; rw [bebytes_length]; exact ho2)
  have K2 := Lib.hid (K1.out.below hb2 K1.out.lt)
  have B2 := Lib.hid (below_then B1.out (by omega) hb2)
  rw [hs1] at HO2
  clear ho2 hb2
  obtain ⟨⟨k0, k1, k2⟩, kf0, kf1, kf2⟩ := K2.out
  go_wp2
  refine bodyPost_ret (res_cell1 Try.results19 (g := w.heap.size) rfl (K2.out.set3 _ _ _)) rfl ?_
  have hw2 := B2.out.size
  refine ⟨below_set3 B2.out (Nat.le_refl _) _ _ _, 2, some ⟨w.heap.size + 1, 0, none⟩, blen v / 8 + 1, blen v / 8 + 1, none, 0, 0, rfl, ?_⟩
  have := RepN.leaf (w := ((w2.setCell ⟨w.heap.size, 0, none⟩ (.int .i64 2)).setCell ⟨w.heap.size, 1, none⟩ (.slice (some ⟨w.heap.size + 1, 0, none⟩) (blen v / 8 + 1) (blen v / 8 + 1))).setCell ⟨w.heap.size, 2, none⟩ (.slice none 0 0)) (t := 2) (L := w.heap.size) (base := w.heap.size + 1) (by omega) (by rw [size_set3]; exact hw2) (own_set3 HO2.out (by omega) _ _ _) (bebytes_dig _ _) (by rw [bebytes_length]; omega) (fun e => by omega)
  rw [bebytes_length] at this
  exact this
theorem ref1_bytes_int {w : World} {L B v : Nat} {V : Value} (N : Int) (n : Nat) (hN : N = (n : Int)) (h : Big w L B (2 ^ 32) v V) (hB : B ≤ w.heap.size) (hn : n ≤ 65536) (hv : blen v ≤ 8 * n) :
    Calls Try.prog 42 #[V, .int .i64 N] w (Rets2 fun V' u w' => u = .bool true ∧ V' = .slice (some ⟨w.heap.size, 0, none⟩) n n ∧ w'.ownsRow w.heap.size 5 1 V' n (nums .u8 (bebytes n v)) ∧ Below w.heap.size w w') := by
  subst hN
  exact ref1_bytes n h hB hn hv
theorem ref_Int {w : World} {L B v : Nat} {V : Value} (h : Big w L B (2 ^ 32) v V) (hB : B ≤ w.heap.size) (hv : blen v ≤ 100000) :
    Calls Try.prog 26 #[V] w (NodeRet w (IntN v)) := by
  have H := Lib.hid h
  clear h
  have H1 := Lib.hid (H.out.below ((Below.refl w.heap.size w).alloc (Nat.le_refl _) (.cells #[.int .i64 0, .slice none 0 0, .slice none 0 0] 25)) hB)
  have K1 := Lib.hid (Blk.made (w := w) (v0 := .int .i64 0) (v1 := .slice none 0 0) (v2 := .slice none 0 0) (t := 25) (g := w.heap.size) rfl)
  have B1 := Lib.hid ((Below.refl w.heap.size w).alloc (Nat.le_refl _) (.cells #[.int .i64 0, .slice none 0 0, .slice none 0 0] 25))
  have hs1 : (w.alloc (.cells #[.int .i64 0, .slice none 0 0, .slice none 0 0] 25)).heap.size = w.heap.size + 1 := by simp
  go_enter Try.func26, Try.ntmps26
  go_wp2_with fail
  generalize w.alloc (.cells #[.int .i64 0, .slice none 0 0, .slice none 0 0] 25) = W1 at *
  have S1 := Lib.hid hs1
  refine Calls.mono (ref1_bits H1.out) ?_
  rintro e w' ⟨rfl, rfl⟩
  go_wp2_with fail
  refine Calls.mono (ref1_bytes_int _ (blen v / 8 + 1) (by omega) (by exact H1.out) (by omega) (by omega) (by omega)) ?_
  rintro e w2 ⟨V2, u2, rfl, rfl, rfl, ho2, hb2⟩
  have HO2 := Lib.hid (show OwnB w2 W1.heap.size (.slice (some ⟨W1.heap.size, 0, none⟩) (bebytes (blen v / 8 + 1) v).length (blen v / 8 + 1)) (bebytes (blen v / 8 + 1) v) by unfold OwnB; rw [bebytes_length]; exact ho2)
  have K2 := Lib.hid (K1.out.below hb2 K1.out.lt)
  have B2 := Lib.hid (below_then B1.out (by omega) hb2)
  rw [hs1] at HO2
  clear ho2 hb2
  obtain ⟨⟨k0, k1, k2⟩, kf0, kf1, kf2⟩ := K2.out
  go_wp2
  refine bodyPost_ret (res_cell1 Try.results26 (g := w.heap.size) rfl (K2.out.set3 _ _ _)) rfl ?_
  have hw2 := B2.out.size
  refine ⟨below_set3 B2.out (Nat.le_refl _) _ _ _, 2, some ⟨w.heap.size + 1, 0, none⟩, blen v / 8 + 1, blen v / 8 + 1, none, 0, 0, rfl, ?_⟩
  have := RepN.leaf (w := ((w2.setCell ⟨w.heap.size, 0, none⟩ (.int .i64 2)).setCell ⟨w.heap.size, 1, none⟩ (.slice (some ⟨w.heap.size + 1, 0, none⟩) (blen v / 8 + 1) (blen v / 8 + 1))).setCell ⟨w.heap.size, 2, none⟩ (.slice none 0 0)) (t := 2) (L := w.heap.size) (base := w.heap.size + 1) (by omega) (by rw [size_set3]; exact hw2) (own_set3 HO2.out (by omega) _ _ _) (bebytes_dig _ _) (by rw [bebytes_length]; omega) (fun e => by omega)
  rw [bebytes_length] at this
  exact this
def NatN : Nd → Option Nat
  | .mk t b ks => if t = 2 then (if MayN (.mk t b ks) then some (beval b) else none) else none
def NatPost (base : Nat) (w : World) (r : Option Nat) (e : Ending) (w' : World) : Prop :=
  Below w.heap.size w w' ∧ ∃ V, e = .returned (.tuple #[V, .bool r.isSome]) ∧ (r = none → V = .slice none 0 0) ∧ ∀ v, r = some v → Big w' w.heap.size w'.heap.size base v V
theorem NatPost.no {base : Nat} {w w' : World} {r : Option Nat} (h : r = none) (hb : Below w.heap.size w w') : NatPost base w r (.returned (.tuple #[.slice none 0 0, .bool false])) w' := by
  subst h
  exact ⟨hb, _, rfl, fun _ => rfl, fun v e => by cases e⟩
theorem NatPost.yes {base : Nat} {w w' : World} {r : Option Nat} {v : Nat} {V : Value} (h : r = some v) (hv : Big w' w.heap.size w'.heap.size base v V) (hb : Below w.heap.size w w') : NatPost base w r (.returned (.tuple #[V, .bool true])) w' := by
  subst h
  refine ⟨hb, V, rfl, (fun e => by cases e), fun u e => ?_⟩
  injection e with e
  subst e
  exact hv
theorem der_Nat {n : Nd} {cs : List Value} {L B : Nat} {w : World} (h : RepN w L B n cs) (hB : B ≤ w.heap.size) :
    Calls Try.prog 20 #[.agg cs.toArray] w (NatPost (2 ^ 64) w (NatN n)) := by
  have H := Lib.hid h
  have HREP := Lib.hid h
  obtain ⟨t, b, ks⟩ := n
  unfold RepN at h
  obtain ⟨A, c, A', c', rfl, h1, h2, h3, h4, ⟨hbl, hkl⟩, h5, h6, h7, h8⟩ := h
  have H1 := Lib.hid (HREP.out.alloc hB (.cells #[.int .i64 t, .slice A b.length c, .slice A' ks.length c'] 25))
  have K1 := Lib.hid (Blk.made (w := w) (v0 := .int .i64 t) (v1 := .slice A b.length c) (v2 := .slice A' ks.length c') (t := 25) (g := w.heap.size) rfl)
  have B1 := Lib.hid ((Below.refl w.heap.size w).alloc (Nat.le_refl _) (.cells #[.int .i64 t, .slice A b.length c, .slice A' ks.length c'] 25))
  have hs1 : (w.alloc (.cells #[.int .i64 t, .slice A b.length c, .slice A' ks.length c'] 25)).heap.size = w.heap.size + 1 := by simp
  have H7 := Lib.hid h7
  have H6 := Lib.hid h6
  clear h5 h6 h7 h8 H HREP
  by_cases g : t = 2
  · have d1 : (t != 2) = false := by simp [g]
    have HN := Lib.hid (show NatN (.mk t b ks) = if MayN (.mk t b ks) then some (beval b) else none by simp only [NatN]; rw [if_pos g])
    clear g
    go_enter Try.func20, Try.ntmps20
    go_wp2_with fail
    generalize w.alloc (.cells #[.int .i64 t, .slice A b.length c, .slice A' ks.length c'] 25) = W1 at *
    have S1 := Lib.hid hs1
    refine Calls.mono (der_May H1.out (by omega)) ?_
    rintro e w2 ⟨rfl, hb2⟩
    have K2 := Lib.hid (K1.out.below hb2 K1.out.lt)
    have B2 := Lib.hid (below_then B1.out (by omega) hb2)
    have S2 := Lib.hid hb2.size
    clear hb2
    obtain ⟨⟨k0, k1, k2⟩, kf0, kf1, kf2⟩ := K2.out
    cases hm : MayN (.mk t b ks) with
    | false =>
      go_wp2
      go_ret2
      exact NatPost.no (by rw [HN.out, hm]; rfl) B2.out
    | true =>
      go_wp2_with fail
      refine Calls.mono (limb_frombytes (H7.out.below B2.out hB) H6.out h1 hbl (by have := B2.out.size; omega)) ?_
      rintro e w3 ⟨V3, rfl, hv3, hb3⟩
      go_wp2
      go_ret2
      refine NatPost.yes (by rw [HN.out, hm]; rfl) ?_ (below_then B2.out B2.out.size hb3)
      exact hv3.wide B2.out.size (Nat.le_refl _)
  · have d1 : (t != 2) = true := by rw [bne_iff_ne]; exact g
    go_enter Try.func20, Try.ntmps20
    go_wp2
    go_ret2
    exact NatPost.no (by simp only [NatN]; rw [if_neg g]) B1.out
theorem ref_Nat {n : Nd} {cs : List Value} {L B : Nat} {w : World} (h : RepN w L B n cs) (hB : B ≤ w.heap.size) :
    Calls Try.prog 21 #[.agg cs.toArray] w (NatPost (2 ^ 32) w (NatN n)) := by
  have H := Lib.hid h
  have HREP := Lib.hid h
  obtain ⟨t, b, ks⟩ := n
  unfold RepN at h
  obtain ⟨A, c, A', c', rfl, h1, h2, h3, h4, ⟨hbl, hkl⟩, h5, h6, h7, h8⟩ := h
  have H1 := Lib.hid (HREP.out.alloc hB (.cells #[.int .i64 t, .slice A b.length c, .slice A' ks.length c'] 25))
  have K1 := Lib.hid (Blk.made (w := w) (v0 := .int .i64 t) (v1 := .slice A b.length c) (v2 := .slice A' ks.length c') (t := 25) (g := w.heap.size) rfl)
  have B1 := Lib.hid ((Below.refl w.heap.size w).alloc (Nat.le_refl _) (.cells #[.int .i64 t, .slice A b.length c, .slice A' ks.length c'] 25))
  have hs1 : (w.alloc (.cells #[.int .i64 t, .slice A b.length c, .slice A' ks.length c'] 25)).heap.size = w.heap.size + 1 := by simp
  have H7 := Lib.hid h7
  have H6 := Lib.hid h6
  clear h5 h6 h7 h8 H HREP
  by_cases g : t = 2
  · have d1 : (t != 2) = false := by simp [g]
    have HN := Lib.hid (show NatN (.mk t b ks) = if MayN (.mk t b ks) then some (beval b) else none by simp only [NatN]; rw [if_pos g])
    clear g
    go_enter Try.func21, Try.ntmps21
    go_wp2_with fail
    generalize w.alloc (.cells #[.int .i64 t, .slice A b.length c, .slice A' ks.length c'] 25) = W1 at *
    have S1 := Lib.hid hs1
    refine Calls.mono (ref_May H1.out (by omega)) ?_
    rintro e w2 ⟨rfl, hb2⟩
    have K2 := Lib.hid (K1.out.below hb2 K1.out.lt)
    have B2 := Lib.hid (below_then B1.out (by omega) hb2)
    have S2 := Lib.hid hb2.size
    clear hb2
    obtain ⟨⟨k0, k1, k2⟩, kf0, kf1, kf2⟩ := K2.out
    cases hm : MayN (.mk t b ks) with
    | false =>
      go_wp2
      go_ret2
      exact NatPost.no (by rw [HN.out, hm]; rfl) B2.out
    | true =>
      go_wp2_with fail
      refine Calls.mono (ref1_frombytes (H7.out.below B2.out hB) H6.out h1 hbl (by have := B2.out.size; omega)) ?_
      rintro e w3 ⟨V3, rfl, hv3, hb3⟩
      go_wp2
      go_ret2
      refine NatPost.yes (by rw [HN.out, hm]; rfl) ?_ (below_then B2.out B2.out.size hb3)
      exact hv3.wide B2.out.size (Nat.le_refl _)
  · have d1 : (t != 2) = true := by rw [bne_iff_ne]; exact g
    go_enter Try.func21, Try.ntmps21
    go_wp2
    go_ret2
    exact NatPost.no (by simp only [NatN]; rw [if_neg g]) B1.out
end Go.Proofs.Ytanelmmklnpohaa
