/-
  Walk of the law's 'cut'; a node in memory has bytes.
  Conditions: none beyond the walks' own.
-/
import Derived.Test.YtanelmmklnpohaaDer18
namespace Go.Proofs.Ytanelmmklnpohaa
open Go.RowKit
set_option linter.unusedVariables false
set_option linter.unusedSimpArgs false

mutual
theorem RepN.dig {w : World} {L B : Nat} : ∀ {n : Nd} {cs : List Value}, RepN w L B n cs → DigN n
  | .mk t b ks, cs, h => by
    unfold RepN at h
    obtain ⟨A, c, A', c', e, h1, h2, h3, h4, hbl, h5, h6, h7, h8⟩ := h
    unfold DigN
    refine ⟨h6, ?_⟩
    match ks, h8 with
    | [], _ => unfold DigKs; trivial
    | k :: r, h8 =>
      obtain ⟨g, off, _, _, _, hk⟩ := h8 (by simp)
      exact RepKs.dig hk
theorem RepKs.dig {w : World} {L B g : Nat} : ∀ {off : Nat} {ks : List Nd}, RepKs w L B g off ks → DigKs ks
  | _, [], _ => by unfold DigKs; trivial
  | off, k :: r, h => by
    unfold RepKs at h
    obtain ⟨⟨v0, v1, v2, _, _, _, hn⟩, hr⟩ := h
    unfold DigKs
    exact ⟨RepN.dig hn, RepKs.dig hr⟩
end

def CutPost (w : World) (e : Ending) (w' : World) : Prop :=
  ∃ n t A1 n1 c1 A2 n2 c2, e = .returned (.agg #[.int .i64 t, .slice A1 n1 c1, .slice A2 n2 c2]) ∧ Below w.heap.size w w' ∧ RepN w' w.heap.size w'.heap.size n [.int .i64 t, .slice A1 n1 c1, .slice A2 n2 c2] ∧ bytesOf n ≤ 200

set_option maxHeartbeats 1000000 in
set_option maxRecDepth 100000 in
theorem law_cut {cs : List Value} {B : Nat} {w : World} (h : InN w B 17 cs) (hB : B ≤ w.heap.size) :
    Calls Try.prog 8 #[.agg cs.toArray] w (CutPost w) := by
  have HIN := Lib.hid h
  obtain ⟨t, A, nb, c, A', nk, c', rfl, hh⟩ := h.head
  clear h hh
  go_enter Try.func8, Try.ntmps8
  go_wp2_with fail
  have HB := Lib.hid ((((Below.refl w.heap.size w).alloc (Nat.le_refl _) (.cells #[.int .i64 t, .slice A nb c, .slice A' nk c'] 25)).alloc (by simp) (.cells #[.int .i64 0, .slice none 0 0, .slice none 0 0] 25)).alloc (by simp; omega) (.cells #[.int .i64 60] 3))
  have HC : Hid (Cnt (((w.alloc (.cells #[.int .i64 t, .slice A nb c, .slice A' nk c'] 25)).alloc (.cells #[.int .i64 0, .slice none 0 0, .slice none 0 0] 25)).alloc (.cells #[.int .i64 60] 3)) (w.heap.size + 2) 60) :=
    Lib.hid ⟨by rw [World.cell?_alloc_at _ _ _ _ (by simp)]; rfl, World.frozen?_alloc_at _ _ _ _ (by simp)⟩
  have HN := Lib.hid (HIN.out.keep (w' := (((w.alloc (.cells #[.int .i64 t, .slice A nb c, .slice A' nk c'] 25)).alloc (.cells #[.int .i64 0, .slice none 0 0, .slice none 0 0] 25)).alloc (.cells #[.int .i64 60] 3))) (fun p hp => HB.out.cell (by omega)))
  have KR := Lib.hid ((Blk.made (w := w.alloc (.cells #[.int .i64 t, .slice A nb c, .slice A' nk c'] 25)) (v0 := .int .i64 0) (v1 := .slice none 0 0) (v2 := .slice none 0 0) (t := 25) (g := w.heap.size + 1) (by simp)).alloc (.cells #[.int .i64 60] 3))
  have hsz : (((w.alloc (.cells #[.int .i64 t, .slice A nb c, .slice A' nk c'] 25)).alloc (.cells #[.int .i64 0, .slice none 0 0, .slice none 0 0] 25)).alloc (.cells #[.int .i64 60] 3)).heap.size = w.heap.size + 3 := by simp
  generalize (((w.alloc (.cells #[.int .i64 t, .slice A nb c, .slice A' nk c'] 25)).alloc (.cells #[.int .i64 0, .slice none 0 0, .slice none 0 0] 25)).alloc (.cells #[.int .i64 60] 3)) = W1 at *
  have SZ := Lib.hid hsz
  clear hsz
  refine Calls.mono (law_some 100 17 [.int .i64 t, .slice A nb c, .slice A' nk c'] 1 1 B (w.heap.size + 2) 60 W1 (by omega) (by omega) (by omega) HN.out (by omega) (by have := SZ.out; omega) HC.out (by omega) (by omega)) ?_
  rintro e w2 ⟨n, t1, A1, n1, c1, A2, n2, c2, l', rfl, hg, hc, _, _, hrep, hb⟩
  have hs1 := SZ.out
  have hs2 : W1.heap.size ≤ w2.heap.size := hg.size
  have K2 := Lib.hid (KR.out.grown hg (fun e => by injection e with e; omega))
  have B2 := Lib.hid (HB.out.grown hg (by omega) (fun g e => by injection e with e; omega))
  have R2 := Lib.hid (hrep.wide (show w.heap.size + 3 ≤ W1.heap.size by omega) (Nat.le_refl _))
  have hsw : w.heap.size ≤ w2.heap.size := by omega
  clear HB HC HN KR hg hc hrep hs1 hs2 HIN SZ
  obtain ⟨⟨k0, k1, k2⟩, kf0, kf1, kf2⟩ := K2.out
  go_wp2
  refine bodyPost_ret (res_cell1 Try.results8 (g := w.heap.size + 1) rfl (K2.out.set3 _ _ _)) rfl ?_
  refine ⟨n, t1, A1, n1, c1, A2, n2, c2, rfl, below_set3 B2.out (by omega) _ _ _, ?_, hb⟩
  rw [size_set3]
  exact RepN.wide (Nat.le_refl _) (Nat.le_refl _) (RepN.wide (L := w.heap.size + 3) (by omega) (Nat.le_refl _) (RepN.keep (fun p p1 p2 => cell_set3 (by omega) _ _ _) R2.out))
end Go.Proofs.Ytanelmmklnpohaa
