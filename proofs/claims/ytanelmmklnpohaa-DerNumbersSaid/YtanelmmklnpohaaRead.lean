/-
  Walk of the law DerRead: any bytes are read alike or refused, and what is read is written as it was.
  Conditions: none beyond the walks' own.
-/
import Derived.Test.YtanelmmklnpohaaBegun
namespace Go.Proofs.Ytanelmmklnpohaa
open Go.RowKit
set_option linter.unusedVariables false
set_option linter.unusedSimpArgs false

theorem RepN.zero (w : World) (L B : Nat) : RepN w L B (.mk 0 [] []) [.int .i64 0, .slice none 0 0, .slice none 0 0] := by
  unfold RepN
  exact ⟨none, 0, none, 0, rfl, by simp, by simp, by simp, by simp, ⟨by simp, by simp⟩, by simp, Dig.nil, Rd.nil, by simp⟩
def usedOf : Option (Nd × Nat) → Int
  | some (_, u) => (u : Int)
  | none => 0
def orZero (r : Option (Nd × Nat)) : Nd := match r with | some (n, _) => n | none => .mk 0 [] []
theorem ReadPost.node {w w' : World} {r : Option (Nd × Nat)} {e : Ending} (h : ReadPost w r e w') : Below w.heap.size w w' ∧ ∃ t A1 n1 c1 A2 n2 c2, e = .returned (.tuple #[.agg #[.int .i64 t, .slice A1 n1 c1, .slice A2 n2 c2], .int .i64 (usedOf r), .bool r.isSome]) ∧
    RepN w' w.heap.size w'.heap.size (orZero r) [.int .i64 t, .slice A1 n1 c1, .slice A2 n2 c2] := by
  rcases r with _ | ⟨n, u⟩
  · obtain ⟨hb, t, A1, n1, c1, A2, n2, c2, he, h0, h1⟩ := h
    obtain ⟨rfl, rfl, rfl, rfl, rfl, rfl, rfl⟩ := h0 rfl
    exact ⟨hb, _, _, _, _, _, _, _, he, RepN.zero _ _ _⟩
  · obtain ⟨hb, t, A1, n1, c1, A2, n2, c2, he, h0, h1⟩ := h
    exact ⟨hb, _, _, _, _, _, _, _, he, h1 n u rfl⟩

set_option maxHeartbeats 4000000 in
set_option maxRecDepth 100000 in
theorem law_DerRead (l : List Nat) (A : Option Addr) (c L B : Nat) (w : World) (hB : B ≤ w.heap.size) (hc : l.length ≤ c) (hcm : c ≤ maxLen) (hd : Dig 256 l) (h : Rd w L B A (nums .u8 l)) :
    Calls Try.prog 4 #[.slice A l.length c] w fun e w' => e = .returned (.bool true) ∧ Below w.heap.size w w' := by
  have H := Lib.hid h
  have HD := Lib.hid hd
  clear h hd
  go_enter Try.func4, Try.ntmps4
  go_wp2_with fail
  refine Calls.mono (law_begun w) ?_
  rintro e w1 ⟨rfl, hb1⟩
  have B1 := Lib.hid hb1
  have H1 := Lib.hid (H.out.below hb1 hB)
  clear hb1
  go_wp2_with fail
  refine Calls.mono (law_Short l _ 300 rfl A l.length c L B w1 rfl hc H1.out) ?_
  rintro e w' ⟨rfl, rfl⟩
  have hbl : (l.take 300).length = min l.length 300 := by rw [List.length_take, Nat.min_comm]
  have R1 := Lib.hid (show Rd w1 L B A (nums .u8 (l.take 300)) by rw [nums_take]; exact H1.out.take _)
  have D1 := Lib.hid (HD.out.take 300)
  rw [← hbl]
  have hb3 : (l.take 300).length ≤ 300 := by rw [hbl]; omega
  have hbc : (l.take 300).length ≤ c := by rw [hbl]; omega
  generalize l.take 300 = b at *
  have hwB : B ≤ w1.heap.size := by have := B1.out.size; omega
  clear hbl H H1 HD
  go_wp2_with fail
  refine Calls.mono (der_Read R1.out hwB (by omega) hbc hcm D1.out) ?_
  intro e w2 hp
  obtain ⟨hb2, t, A1, n1, c1, A2, n2, c2, rfl, hr2⟩ := hp.node
  clear hp
  have B2 := Lib.hid ((below_then B1.out B1.out.size hb2).alloc (by have := B1.out.size; have := hb2.size; omega) (.cells #[.int .i64 t, .slice A1 n1 c1, .slice A2 n2 c2] 25))
  have R2 := Lib.hid ((R1.out.below hb2 hwB).alloc (by have := hb2.size; omega) (.cells #[.int .i64 t, .slice A1 n1 c1, .slice A2 n2 c2] 25))
  have RN := Lib.hid (hr2.alloc (Nat.le_refl _) (.cells #[.int .i64 t, .slice A1 n1 c1, .slice A2 n2 c2] 25))
  have KN := Lib.hid (Blk.made (w := w2) (v0 := .int .i64 t) (v1 := .slice A1 n1 c1) (v2 := .slice A2 n2 c2) (t := 25) (g := w2.heap.size) rfl)
  have hs3 : (w2.alloc (.cells #[.int .i64 t, .slice A1 n1 c1, .slice A2 n2 c2] 25)).heap.size = w2.heap.size + 1 := by simp
  have S2 := Lib.hid (show w1.heap.size ≤ w2.heap.size from hb2.size)
  clear hb2 hr2
  go_wp2_with fail
  generalize w2.alloc (.cells #[.int .i64 t, .slice A1 n1 c1, .slice A2 n2 c2] 25) = w3 at *
  have S3 := Lib.hid hs3
  clear hs3
  refine Calls.mono (ref_Read R2.out (by have := S3.out; have := S2.out; omega) (by omega) hbc hcm D1.out) ?_
  intro e w4 hp
  rw [← read_ref D1.out] at hp
  obtain ⟨hb4, t', A1', n1', c1', A2', n2', c2', rfl, hr4⟩ := hp.node
  clear hp
  have B4 := Lib.hid ((below_then B2.out B2.out.size hb4).alloc (by have := B2.out.size; have := hb4.size; omega) (.cells #[.int .i64 t', .slice A1' n1' c1', .slice A2' n2' c2'] 25))
  have R4 := Lib.hid ((R2.out.below hb4 (by have := S3.out; have := S2.out; omega)).alloc (by have := hb4.size; have := S3.out; have := S2.out; omega) (.cells #[.int .i64 t', .slice A1' n1' c1', .slice A2' n2' c2'] 25))
  have RN4 := Lib.hid ((RN.out.below hb4 (by have := S3.out; omega)).alloc (by have := hb4.size; have := S3.out; omega) (.cells #[.int .i64 t', .slice A1' n1' c1', .slice A2' n2' c2'] 25))
  have KN4 := Lib.hid ((KN.out.below hb4 KN.out.lt).alloc (.cells #[.int .i64 t', .slice A1' n1' c1', .slice A2' n2' c2'] 25))
  have RM := Lib.hid (hr4.alloc (Nat.le_refl _) (.cells #[.int .i64 t', .slice A1' n1' c1', .slice A2' n2' c2'] 25))
  have KM := Lib.hid (Blk.made (w := w4) (v0 := .int .i64 t') (v1 := .slice A1' n1' c1') (v2 := .slice A2' n2' c2') (t := 25) (g := w4.heap.size) rfl)
  have hs5 : (w4.alloc (.cells #[.int .i64 t', .slice A1' n1' c1', .slice A2' n2' c2'] 25)).heap.size = w4.heap.size + 1 := by simp
  have S4 := Lib.hid (show w2.heap.size + 1 ≤ w4.heap.size by have := hb4.size; have := S3.out; omega)
  have HRW := Lib.hid (fun n u (e : ReadN b = some (n, u)) => read_write D1.out e)
  clear hb4 hr4 B2 R2 RN KN R1
  generalize ReadN b = rr at *
  obtain ⟨⟨k0, k1, k2⟩, kf0, kf1, kf2⟩ := KN4.out
  obtain ⟨⟨m0, m1, m2⟩, mf0, mf1, mf2⟩ := KM.out
  rcases rr with _ | ⟨n, u⟩
  · simp only [usedOf, orZero] at *
    go_wp2_with fail
    generalize w4.alloc (.cells #[.int .i64 t', .slice A1' n1' c1', .slice A2' n2' c2'] 25) = w5 at *
    have S5 := Lib.hid hs5
    clear hs5 k0 k1 k2 kf0 kf1 kf2 m0 m1 m2 mf0 mf1 mf2
    refine Calls.mono (ref_Eq _ _ _ _ _ _ _ _ w5 (Nat.le_refl _) RN4.out RM.out (by have := S5.out; have := S4.out; omega) (by have := S5.out; omega)) ?_
    rintro e w6 ⟨rfl, hb6⟩
    have B6 := Lib.hid (below_then B4.out B4.out.size hb6)
    go_wp2
    go_ret
    exact ⟨rfl, B6.out⟩
  · simp only [usedOf, orZero] at *
    obtain ⟨hu, hw⟩ := HRW.out n u rfl
    have HW := Lib.hid hw
    clear hw
    go_wp2_with fail
    generalize w4.alloc (.cells #[.int .i64 t', .slice A1' n1' c1', .slice A2' n2' c2'] 25) = w5 at *
    have S5 := Lib.hid hs5
    clear hs5 k0 k1 k2 kf0 kf1 kf2 m0 m1 m2 mf0 mf1 mf2
    refine Calls.mono (ref_Eq _ _ _ _ _ _ _ _ w5 (Nat.le_refl _) RN4.out RM.out (by have := S5.out; have := S4.out; omega) (by have := S5.out; omega)) ?_
    rintro e w6 ⟨rfl, hb6⟩
    have B6 := Lib.hid (below_then B4.out B4.out.size hb6)
    have KN6 := Lib.hid (KN4.out.below hb6 KN4.out.lt)
    have RN6 := Lib.hid (RN4.out.below hb6 (by have := S5.out; have := S4.out; omega))
    have R6 := Lib.hid (R4.out.below hb6 (by have := S5.out; have := S4.out; have := S2.out; omega))
    have S6 := Lib.hid (show w4.heap.size + 1 ≤ w6.heap.size by have := S5.out; have := hb6.size; omega)
    clear hb6 B4 R4 RN4 KN4 RM KM
    obtain ⟨⟨k0, k1, k2⟩, kf0, kf1, kf2⟩ := KN6.out
    go_wp2_with fail
    refine Calls.mono (der_Write RN6.out (by have := S6.out; have := S4.out; omega)) ?_
    rw [HW.out]
    rintro e w7 ⟨A7, c7, rfl, hc7, hm7, _, hr7, hb7⟩
    simp only [Option.getD_some] at hc7 hr7
    have B7 := Lib.hid (below_then B6.out B6.out.size hb7)
    have R7 := Lib.hid (R6.out.below hb7 (by have := S6.out; have := S4.out; have := S2.out; omega))
    have hut : (b.take u).length = u := by rw [List.length_take]; omega
    have C7 : ∀ k, (convert 22 9 (.slice A7 u c7)).run Try.prog (w7.drewN k) = .ok (.string (strN (b.take u))) (w7.drewN k) := fun k => by
      have := conv_rd (c := c7) (hr7.drewN k)
      rwa [hut] at this
    have C7' : ∀ k, (convert 22 9 (.slice A u c)).run Try.prog (w7.drewN k) = .ok (.string (strN (b.take u))) (w7.drewN k) := fun k => by
      have := conv_rd (l := b.take u) (A := A) (c := c) (w := w7.drewN k) (L := L) (B := B) (by rw [nums_take]; exact (R7.out.take u).drewN k)
      rwa [hut] at this
    generalize strN (b.take u) = sb at C7 C7'
    simp only [Option.getD_some]
    rw [hut]
    have huc : (u : Int) ≤ (c : Int) := by omega
    go_wp2_with fail
    go_quiet (fail)
    go_wp2
    go_ret
    exact ⟨rfl, below_drewN B7.out _⟩
end Go.Proofs.Ytanelmmklnpohaa
