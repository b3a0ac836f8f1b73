/-
  Walks of the package der: Read.
  Conditions: none beyond the walks' own.
-/
import Derived.Test.YtanelmmklnpohaaDer8
namespace Go.Proofs.Ytanelmmklnpohaa
open Go.RowKit
set_option linter.unusedVariables false
set_option linter.unusedSimpArgs false

/-- What a reader of one node gives back. -/
def ReadPost (w : World) (r : Option (Nd × Nat)) (e : Ending) (w' : World) : Prop :=
  Below w.heap.size w w' ∧ ∃ t A1 n1 c1 A2 n2 c2, e = .returned (.tuple #[.agg #[.int .i64 t, .slice A1 n1 c1, .slice A2 n2 c2], .int .i64 ((match r with | some (_, u) => u | none => 0 : Nat) : Int), .bool r.isSome]) ∧
    (r = none → t = 0 ∧ A1 = none ∧ n1 = 0 ∧ c1 = 0 ∧ A2 = none ∧ n2 = 0 ∧ c2 = 0) ∧ ∀ n u, r = some (n, u) → RepN w' w.heap.size w'.heap.size n [.int .i64 t, .slice A1 n1 c1, .slice A2 n2 c2]
theorem ReadPost.no {w w' : World} {r : Option (Nd × Nat)} (h : r = none) (hb : Below w.heap.size w w') : ReadPost w r (.returned (.tuple #[.agg #[.int .i64 0, .slice none 0 0, .slice none 0 0], .int .i64 0, .bool false])) w' := by
  subst h
  exact ⟨hb, 0, none, 0, 0, none, 0, 0, rfl, fun _ => ⟨rfl, rfl, rfl, rfl, rfl, rfl, rfl⟩, fun n u e => by cases e⟩
theorem ReadPost.yes {w w' : World} {r : Option (Nd × Nat)} {n : Nd} {u : Nat} {t U : Int} {A1 A2 : Option Addr} {n1 c1 n2 c2 : Nat} (h : r = some (n, u)) (hu : U = (u : Int)) (hb : Below w.heap.size w w')
    (hr : RepN w' w.heap.size w'.heap.size n [.int .i64 t, .slice A1 n1 c1, .slice A2 n2 c2]) : ReadPost w r (.returned (.tuple #[.agg #[.int .i64 t, .slice A1 n1 c1, .slice A2 n2 c2], .int .i64 U, .bool true])) w' := by
  subst h hu
  refine ⟨hb, t, A1, n1, c1, A2, n2, c2, rfl, (fun e => by cases e), fun n' u' e => ?_⟩
  injection e with e
  simp only [Prod.mk.injEq] at e
  obtain ⟨rfl, rfl⟩ := e
  exact hr
theorem res_cell {fn : Func} {s t u : Tmp} (hf : fn.results = #[.cell s 25, .tmp t, .tmp u]) {tmps : Array Value} {w : World} {g : Nat} {v0 v1 v2 : Value} (ht : tmps.getD s undef = .pointer (some ⟨g, 0, none⟩)) (h : Blk w g v0 v1 v2) :
    (results fn tmps).run Try.prog w = .ok (.tuple #[.agg #[v0, v1, v2], tmps.getD t undef, tmps.getD u undef]) w := by
  obtain ⟨⟨a, b, c⟩, d, e, f⟩ := h
  have ht' : tmps[s]?.getD undef = .pointer (some ⟨g, 0, none⟩) := by simpa using ht
  simp [results, hf, go_sem, a, b, c, ht']
/-- What is grown off a world whose new blocks alone were open to it. -/
theorem below_past {a w w' : World} {B : Nat} {row : Option Nat} (h : Below B a w) (hg : w.grownBy w' row) (hB : B ≤ w.heap.size) (hr : ∀ g, row = some g → B ≤ g) : Below B a w' := h.grown hg hB hr
theorem below_set3 {a w : World} {B g : Nat} (h : Below B a w) (hg : B ≤ g) (u0 u1 u2 : Value) : Below B a (((w.setCell ⟨g, 0, none⟩ u0).setCell ⟨g, 1, none⟩ u1).setCell ⟨g, 2, none⟩ u2) :=
  ((h.setCell (p := ⟨g, 0, none⟩) hg _).setCell (p := ⟨g, 1, none⟩) hg _).setCell (p := ⟨g, 2, none⟩) hg _

set_option maxHeartbeats 1000000 in
theorem der_Read {b : List Nat} {A : Option Addr} {c L B : Nat} {w : World} (h : Rd w L B A (nums .u8 b)) (hB : B ≤ w.heap.size) (hbl : b.length ≤ 1048570) (hbc : b.length ≤ c) (hcm : c ≤ maxLen) (hd : Dig 256 b) :
    Calls Try.prog 14 #[.slice A b.length c] w (ReadPost w (ReadN b)) := by
  have H := Lib.hid h
  have HD := Lib.hid hd
  clear h hd
  have hR := Lib.hid (show ReadN b = match (nodeN (b.length + 2) b 0 1024).1 with
    | some (n, rest) => if 65536 < b.length - rest.length then none else some (n, b.length - rest.length)
    | none => none from rfl)
  have B1 := Lib.hid ((Below.refl w.heap.size w).alloc (Nat.le_refl _) (.cells #[.int .i64 0, .slice none 0 0, .slice none 0 0] 25))
  have K1 := Lib.hid (Blk.made (w := w) (v0 := .int .i64 0) (v1 := .slice none 0 0) (v2 := .slice none 0 0) (t := 25) (g := w.heap.size) rfl)
  go_enter Try.func14, Try.ntmps14
  go_wp2_with fail
  have C1 := Lib.hid (show Cnt ((w.alloc (.cells #[.int .i64 0, .slice none 0 0, .slice none 0 0] 25)).alloc (.cells #[.int .i64 1024] 68)) (w.heap.size + 1) 1024 from ⟨by rw [World.cell?_alloc_at _ _ _ _ (by simp)]; rfl, by simp⟩)
  have B2 := Lib.hid (B1.out.alloc (by simp) (.cells #[.int .i64 1024] 68))
  have K2 := Lib.hid (K1.out.alloc (.cells #[.int .i64 1024] 68))
  have H2 := Lib.hid ((H.out.alloc hB (.cells #[.int .i64 0, .slice none 0 0, .slice none 0 0] 25)).alloc (by simp; omega) (.cells #[.int .i64 1024] 68))
  have hs1 : ((w.alloc (.cells #[.int .i64 0, .slice none 0 0, .slice none 0 0] 25)).alloc (.cells #[.int .i64 1024] 68)).heap.size = w.heap.size + 2 := by simp
  generalize (w.alloc (.cells #[.int .i64 0, .slice none 0 0, .slice none 0 0] 25)).alloc (.cells #[.int .i64 1024] 68) = W1 at C1 B2 K2 H2 hs1 ⊢
  have S1 := Lib.hid hs1
  clear hs1 B1 K1 H
  refine Calls.mono (der_node _ (b.length + 2) b A c 0 _ L B (w.heap.size + 1) 1024 W1 (Nat.le_refl _) rfl (Nat.le_refl _) (by omega) (by omega) (by omega) (by omega) hbc hcm HD.out (by exact H2.out) (by omega) C1.out) ?_
  rintro e w2 ⟨hg2, _, t, A1, n1, c1, A2, n2, c2, A3, n3, c3, rfl, hyes⟩
  have hns := fun n s l' => node_some (b.length + 2) b 0 1024 n s l' HD.out
  generalize nodeN (b.length + 2) b 0 1024 = rr at hR hyes hns ⊢
  obtain ⟨o, l2⟩ := rr
  have BB := Lib.hid (B2.out.grown hg2 (by have := S1.out; omega) (fun g e => by injection e with e; omega))
  have KK := Lib.hid (K2.out.grown hg2 (fun e => by injection e with e; omega))
  have SS := Lib.hid hg2.size
  have K3 := Lib.hid (Blk.made (w := w2) (v0 := .int .i64 t) (v1 := .slice A1 n1 c1) (v2 := .slice A2 n2 c2) (t := 25) (g := w2.heap.size) rfl)
  have KK3 := Lib.hid (KK.out.alloc (.cells #[.int .i64 t, .slice A1 n1 c1, .slice A2 n2 c2] 25))
  have BB3 := Lib.hid (BB.out.alloc (by have := S1.out; have := SS.out; omega) (.cells #[.int .i64 t, .slice A1 n1 c1, .slice A2 n2 c2] 25))
  rcases o with _ | ⟨n, s⟩
  · have HR2 := Lib.hid (show ReadN b = none by rw [hR.out])
    clear hR hyes hns hg2
    obtain ⟨⟨k0, k1, k2⟩, kf0, kf1, kf2⟩ := KK3.out
    have hne : w.heap.size ≠ w2.heap.size := by have := S1.out; have := SS.out; omega
    go_wp2
    refine bodyPost_ret (res_cell Try.results14 (g := w.heap.size) rfl (KK3.out.set3 _ _ _)) rfl ?_
    exact ReadPost.no HR2.out (below_set3 BB3.out (Nat.le_refl _) _ _ _)
  · obtain ⟨hrep, rfl, _, _, _, _⟩ := hyes n s rfl
    obtain ⟨hs1, _, _, _⟩ := hns n s l2 rfl
    have HR2 := Lib.hid (show ReadN b = if 65536 < b.length - s.length then none else some (n, b.length - s.length) by rw [hR.out])
    have HRP := Lib.hid (hrep.alloc (Nat.le_refl _) (.cells #[.int .i64 t, .slice A1 n1 c1, .slice A2 n2 c2] 25))
    clear hR hyes hns hg2 hrep
    obtain ⟨⟨k0, k1, k2⟩, kf0, kf1, kf2⟩ := KK3.out
    obtain ⟨⟨q0, q1, q2⟩, qf0, qf1, qf2⟩ := K3.out
    have hne : w.heap.size ≠ w2.heap.size := by have := S1.out; have := SS.out; omega
    by_cases g : 65536 < b.length - s.length
    · have d1 : decide (65536 < (b.length : Int) - (s.length : Int)) = true := decide_eq_true (by omega)
      have HR3 := Lib.hid (show ReadN b = none by rw [HR2.out, if_pos g])
      go_wp2
      refine bodyPost_ret (res_cell Try.results14 (g := w.heap.size) rfl (KK3.out.set3 _ _ _)) rfl ?_
      exact ReadPost.no HR3.out (below_set3 BB3.out (Nat.le_refl _) _ _ _)
    · have d1 : decide (65536 < (b.length : Int) - (s.length : Int)) = false := decide_eq_false (by omega)
      have HR3 := Lib.hid (show ReadN b = some (n, b.length - s.length) by rw [HR2.out, if_neg g])
      go_wp2
      refine bodyPost_ret (res_cell Try.results14 (g := w.heap.size) rfl (KK3.out.set3 _ _ _)) rfl ?_
      refine ReadPost.yes HR3.out (by omega) (below_set3 BB3.out (Nat.le_refl _) _ _ _) ?_
      exact RepN.wide (by have := S1.out; omega) (by rw [size_set3]; simp) (RepN.keep (fun p p1 p2 => cell_set3 (by have := S1.out; omega) _ _ _) HRP.out)
end Go.Proofs.Ytanelmmklnpohaa
