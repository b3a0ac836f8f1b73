/-
  Walks of the package der and its reference: nodes in memory; what may be.
  Conditions: none beyond the walks' own.
-/
import Derived.Test.YtanelmmklnpohaaRef2
import Derived.Test.YtanelmmklnpohaaNodeRead
namespace Go.Proofs.Ytanelmmklnpohaa
open Go.RowKit
set_option linter.unusedVariables false
set_option linter.unusedSimpArgs false

/-! ### A node in memory -/
mutual
def RepN (w : World) (L B : Nat) : Nd → List Value → Prop
  | .mk t b ks, cs => ∃ A c A' c', cs = [.int .i64 t, .slice A b.length c, .slice A' ks.length c'] ∧ b.length ≤ c ∧ c ≤ maxLen ∧ ks.length ≤ c' ∧ c' ≤ maxLen ∧ (b.length ≤ 1048576 ∧ ks.length ≤ 1048576) ∧ (t = 48 → b = [] → A = none ∧ c = 0) ∧ Dig 256 b ∧ Rd w L B A (nums .u8 b) ∧
      (0 < ks.length → ∃ g off, A' = some ⟨g, off, none⟩ ∧ L ≤ g ∧ g < B ∧ RepKs w L B g off ks)
def RepKs (w : World) (L B g : Nat) : Nat → List Nd → Prop
  | _, [] => True
  | off, k :: r => (∃ v0 v1 v2, w.cell? ⟨g, off, none⟩ = some v0 ∧ w.cell? ⟨g, off + 1, none⟩ = some v1 ∧ w.cell? ⟨g, off + 2, none⟩ = some v2 ∧ RepN w L B k [v0, v1, v2]) ∧ RepKs w L B g (off + 3) r
end
mutual
theorem RepN.keep {w w' : World} {L B : Nat} (hk : ∀ p : Addr, L ≤ p.block → p.block < B → w'.cell? p = w.cell? p) : ∀ {n : Nd} {cs : List Value}, RepN w L B n cs → RepN w' L B n cs
  | .mk t b ks, cs, h => by
    unfold RepN at h ⊢
    obtain ⟨A, c, A', c', e, h1, h2, h3, h4, hbl, h5, h6, h7, h8⟩ := h
    refine ⟨A, c, A', c', e, h1, h2, h3, h4, hbl, h5, h6, h7.keep hk, fun hp => ?_⟩
    obtain ⟨g, off, e', g1, g2, g3⟩ := h8 hp
    exact ⟨g, off, e', g1, g2, RepKs.keep hk g1 g2 g3⟩
theorem RepKs.keep {w w' : World} {L B g : Nat} (hk : ∀ p : Addr, L ≤ p.block → p.block < B → w'.cell? p = w.cell? p) (g1 : L ≤ g) (g2 : g < B) : ∀ {off : Nat} {ks : List Nd}, RepKs w L B g off ks → RepKs w' L B g off ks
  | _, [], _ => by unfold RepKs; trivial
  | off, k :: r, h => by
    unfold RepKs at h ⊢
    obtain ⟨⟨v0, v1, v2, c0, c1, c2, hn⟩, hr⟩ := h
    exact ⟨⟨v0, v1, v2, (hk _ g1 g2).trans c0, (hk _ g1 g2).trans c1, (hk _ g1 g2).trans c2, RepN.keep hk hn⟩, RepKs.keep hk g1 g2 hr⟩
end
mutual
theorem RepN.wide {w : World} {L B L' B' : Nat} (hL : L' ≤ L) (hB : B ≤ B') : ∀ {n : Nd} {cs : List Value}, RepN w L B n cs → RepN w L' B' n cs
  | .mk t b ks, cs, h => by
    unfold RepN at h ⊢
    obtain ⟨A, c, A', c', e, h1, h2, h3, h4, hbl, h5, h6, h7, h8⟩ := h
    refine ⟨A, c, A', c', e, h1, h2, h3, h4, hbl, h5, h6, h7.wide hL hB, fun hp => ?_⟩
    obtain ⟨g, off, e', g1, g2, g3⟩ := h8 hp
    exact ⟨g, off, e', by omega, by omega, RepKs.wide hL hB g3⟩
theorem RepKs.wide {w : World} {L B L' B' g : Nat} (hL : L' ≤ L) (hB : B ≤ B') : ∀ {off : Nat} {ks : List Nd}, RepKs w L B g off ks → RepKs w L' B' g off ks
  | _, [], _ => by unfold RepKs; trivial
  | off, k :: r, h => by
    unfold RepKs at h ⊢
    obtain ⟨⟨v0, v1, v2, c0, c1, c2, hn⟩, hr⟩ := h
    exact ⟨⟨v0, v1, v2, c0, c1, c2, RepN.wide hL hB hn⟩, RepKs.wide hL hB hr⟩
end
theorem RepN.below {w w' : World} {L B B' : Nat} {n : Nd} {cs : List Value} (h : RepN w L B n cs) (hb : Below B' w w') (hB : B ≤ B') : RepN w' L B n cs := RepN.keep (fun _ _ hp => hb.cell (by omega)) h
theorem RepN.alloc {w : World} {L B : Nat} {n : Nd} {cs : List Value} (h : RepN w L B n cs) (hB : B ≤ w.heap.size) (o : Obj) : RepN (w.alloc o) L B n cs := RepN.keep (fun p _ hp => World.cell?_alloc_lt w o p (by omega)) h
theorem RepN.setCell {w : World} {L B : Nat} {n : Nd} {cs : List Value} (h : RepN w L B n cs) {p : Addr} (hp : p.block < L ∨ B ≤ p.block) (u : Value) : RepN (w.setCell p u) L B n cs :=
  RepN.keep (fun q h1 h2 => World.cell?_setCell_other w p q u (fun e => by subst e; omega)) h
theorem RepN.grown {w w' : World} {L B : Nat} {n : Nd} {cs : List Value} {row : Option Nat} (h : RepN w L B n cs) (hg : w.grownBy w' row) (hB : B ≤ w.heap.size) (hr : ∀ g, row = some g → g < L ∨ B ≤ g) : RepN w' L B n cs :=
  RepN.keep (fun p h1 h2 => World.cell?_of_block (hg.block p.block (by omega) (fun e => by have := hr _ e.symm; omega))) h
theorem RepN.drew {w : World} {L B : Nat} {n : Nd} {cs : List Value} (h : RepN w L B n cs) : RepN w.drew L B n cs := RepN.keep (w := w) (w' := w.drew) (fun _ _ _ => rfl) h
/-- A kid of a row. -/
theorem RepKs.at_ {w : World} {L B g : Nat} : ∀ {off : Nat} {ks : List Nd} {i : Nat} {k : Nd} {r : List Nd}, RepKs w L B g off ks → ks.drop i = k :: r →
    ∃ v0 v1 v2, w.cell? ⟨g, off + i * 3, none⟩ = some v0 ∧ w.cell? ⟨g, off + i * 3 + 1, none⟩ = some v1 ∧ w.cell? ⟨g, off + i * 3 + 2, none⟩ = some v2 ∧ RepN w L B k [v0, v1, v2]
  | off, [], i, k, r, _, e => by simp at e
  | off, k' :: r', 0, k, r, h, e => by
    unfold RepKs at h
    simp only [List.drop_zero, List.cons.injEq] at e
    obtain ⟨rfl, rfl⟩ := e
    rw [Nat.zero_mul, Nat.add_zero]
    exact h.1
  | off, k' :: r', i + 1, k, r, h, e => by
    unfold RepKs at h
    simp only [List.drop_succ_cons] at e
    have := RepKs.at_ h.2 e
    rw [show off + 3 + i * 3 = off + (i + 1) * 3 from by omega] at this
    exact this
theorem RepN.form {w : World} {L B : Nat} {n : Nd} {v0 v1 v2 : Value} (h : RepN w L B n [v0, v1, v2]) : ∃ t A1 n1 c1 A2 n2 c2, v0 = .int .i64 t ∧ v1 = .slice A1 n1 c1 ∧ v2 = .slice A2 n2 c2 := by
  cases n
  unfold RepN at h
  obtain ⟨A, c, A', c', e, _⟩ := h
  simp only [List.cons.injEq, and_true] at e
  exact ⟨_, _, _, _, _, _, _, e.1, e.2.1, e.2.2⟩
theorem drop_cons_lt {α : Type} {ks : List α} {i : Nat} (h : i < ks.length) : ∃ k r, ks.drop i = k :: r ∧ ks.drop (i + 1) = r ∧ k ∈ ks := by
  refine ⟨ks[i], ks.drop (i + 1), List.drop_eq_getElem_cons h, rfl, List.getElem_mem h⟩
theorem sizeN_mem : ∀ {ks : List Nd} {k : Nd}, k ∈ ks → sizeN k ≤ sizeKs ks
  | [], k, h => by cases h
  | x :: r, k, h => by
    unfold sizeKs
    rcases List.mem_cons.1 h with rfl | h
    · omega
    · have := sizeN_mem h; omega

/-! ### name, plain -/
set_option maxHeartbeats 400000 in
theorem der_name (l : List Nat) (A : Option Addr) (c L B : Nat) (w : World) (hl : l.length ≤ 1048576) (hc : l.length ≤ c) (h : Rd w L B A (nums .u8 l)) :
    Calls Try.prog 56 #[.slice A l.length c] w fun e w' => e = .returned (.bool (nameB l)) ∧ w = w' := by
  have H := Lib.hid h
  clear h
  go_enter Try.func56, Try.ntmps56
  go_wp2
  go_loop [3, 5, 8] (fun bg x i => ∃ (k : Nat) (s : Bool), k ≤ l.length ∧ i = .int .i64 k ∧ bg = .bool s ∧ Hid (nameFrom s (l.drop k) = nameFrom true l)) (fun bg x i => l.length - (intOf i).toNat)
  case atStart => exact ⟨0, true, Nat.zero_le _, rfl, rfl, Lib.hid rfl⟩
  case round =>
    obtain ⟨k, s, hk, rfl, rfl, hT⟩ := hrel
    rcases Nat.lt_or_ge k l.length with hlt | hge
    · obtain ⟨b, off, rfl, _, _, hcell⟩ := H.out.num hlt
      have hcl := hcell k hlt
      clear hcell
      have E : Hid (nameFrom s (l.drop k) = if s && decide (l.getD k 0 = 128) then false else nameFrom (decide (l.getD k 0 < 128)) (l.drop (k + 1))) := by
        rw [List.drop_eq_getElem_cons hlt, List.getD_eq_getElem?_getD, List.getElem?_eq_getElem hlt]
        exact Lib.hid rfl
      generalize l.getD k 0 = x at hcl E
      cases s with
      | true =>
        by_cases hx : x = 128
        · subst hx
          have hz : Hid (nameB l = false) := by
            unfold nameB
            rw [← hT.out, E.out]
            simp [Hid]
          go_wp2
          go_ret
          exact ⟨by rw [hz.out]; rfl, rfl⟩
        · have hzb : ((x : Int) == 128) = false := by rw [beq_eq_false_iff_ne]; omega
          have F : Hid (nameFrom (decide (x < 128)) (l.drop (k + 1)) = nameFrom true l) := by
            rw [← hT.out, E.out]
            simp [Hid, hx]
          clear hx
          go_wp2
          go_round
          case rel => exact ⟨k + 1, decide (x < 128), by omega, by go_num, by simp; omega, F⟩
          case measure => simp [intOf]; omega
      | false =>
        have F : Hid (nameFrom (decide (x < 128)) (l.drop (k + 1)) = nameFrom true l) := by
          rw [← hT.out, E.out]
          simp [Hid]
        go_wp2
        go_round
        case rel => exact ⟨k + 1, decide (x < 128), by omega, by go_num, by simp; omega, F⟩
        case measure => simp [intOf]; omega
    · obtain rfl : k = l.length := by omega
      have hz : Hid (nameB l = (decide (0 < l.length) && s)) := by
        unfold nameB
        rw [← hT.out, List.drop_length]
        exact Lib.hid rfl
      rcases Nat.eq_zero_or_pos l.length with h0 | h0
      · have d0 : decide (0 < (l.length : Int)) = false := decide_eq_false (by omega)
        have d1 : decide (0 < l.length) = false := decide_eq_false (by omega)
        go_wp2
        go_ret
        exact ⟨by rw [hz.out, d1]; rfl, rfl⟩
      · have d0 : decide (0 < (l.length : Int)) = true := decide_eq_true (by omega)
        have d1 : decide (0 < l.length) = true := decide_eq_true (by omega)
        go_wp2
        go_ret
        exact ⟨by rw [hz.out, d1]; rfl, rfl⟩

theorem ret_bool {a b : Bool} (h : a = b) : Ending.returned (.bool a) = .returned (.bool b) := by rw [h]
theorem plainB_other {t : Int} {b : List Nat} (h2 : t ≠ 2) (h3 : t ≠ 3) (h4 : t ≠ 4) (h5 : t ≠ 5) (h6 : t ≠ 6) : plainB t b = false := by
  unfold plainB
  rw [if_neg h2, if_neg h3, if_neg h4, if_neg h5, if_neg h6]
theorem lit_beq_false {t k : Int} (h : t ≠ k) : (t == k) = false := beq_eq_false_iff_ne.2 h
set_option maxHeartbeats 800000 in
theorem der_plain (t : Int) (l : List Nat) (A : Option Addr) (c L B : Nat) (w : World) (hl : l.length ≤ 1048576) (hc : l.length ≤ c) (h : Rd w L B A (nums .u8 l)) :
    Calls Try.prog 48 #[.int .i64 t, .slice A l.length c] w fun e w' => e = .returned (.bool (plainB t l)) ∧ w = w' := by
  have H := Lib.hid h
  clear h
  by_cases h2 : t = 2
  · subst h2
    rcases Nat.eq_zero_or_pos l.length with h0 | h0
    · have HE : Hid (plainB 2 l = false) := by simp [plainB, h0, Hid]
      have d0 : decide (0 < (l.length : Int)) = false := decide_eq_false (by omega)
      have d1 : decide (0 < l.length) = false := decide_eq_false (by omega)
      clear h0
      go_enter Try.func48, Try.ntmps48
      go_wp2
      go_ret
      exact ⟨by rw [HE.out]; rfl, rfl⟩
    · obtain ⟨b, off, rfl, _, _, hcell⟩ := H.out.num h0
      have c0 := hcell 0 h0
      rw [Nat.add_zero] at c0
      have HE : Hid (plainB 2 l = (decide (l.getD 0 0 < 128) && (decide (0 < l.getD 0 0) || (decide (l.length = 1) || decide (128 ≤ l.getD 1 0))))) := by simp [plainB, h0, Hid]
      have d0 : decide (0 < (l.length : Int)) = true := decide_eq_true (by omega)
      by_cases hx : l.getD 0 0 < 128
      · by_cases hx0 : 0 < l.getD 0 0
        · have HR := Lib.hid (show plainB 2 l = true by rw [HE.out]; simp only [hx, hx0, decide_true, Bool.true_or, Bool.and_self])
          clear hcell HE
          generalize l.getD 0 0 = x at c0 hx hx0
          have d1 : decide ((x : Int) < 128) = true := decide_eq_true (by omega)
          have d2 : decide (0 < (x : Int)) = true := decide_eq_true (by omega)
          go_enter Try.func48, Try.ntmps48
          go_wp2
          go_ret
          exact ⟨by rw [HR.out]; rfl, rfl⟩
        · by_cases h1 : l.length = 1
          · have HR := Lib.hid (show plainB 2 l = true by rw [HE.out]; simp only [hx, h1, decide_true, Bool.true_or, Bool.or_true, Bool.and_self])
            have d3 : ((l.length : Int) == 1) = true := by rw [beq_iff_eq]; omega
            clear hcell HE h1
            generalize l.getD 0 0 = x at c0 hx hx0
            have d1 : decide ((x : Int) < 128) = true := decide_eq_true (by omega)
            have d2 : decide (0 < (x : Int)) = false := decide_eq_false (by omega)
            go_enter Try.func48, Try.ntmps48
            go_wp2
            go_ret
            exact ⟨by rw [HR.out]; rfl, rfl⟩
          · have c1 := hcell 1 (by omega)
            have HR := Lib.hid (show plainB 2 l = decide (128 ≤ l.getD 1 0) by rw [HE.out]; simp only [hx, hx0, h1, decide_true, decide_false, Bool.false_or, Bool.true_and])
            have d3 : ((l.length : Int) == 1) = false := lit_beq_false (by omega)
            have hl1 : 1 < l.length := by omega
            clear hcell HE h1
            generalize l.getD 0 0 = x at c0 hx hx0
            generalize l.getD 1 0 = y at c1 HR
            have d1 : decide ((x : Int) < 128) = true := decide_eq_true (by omega)
            have d2 : decide (0 < (x : Int)) = false := decide_eq_false (by omega)
            go_enter Try.func48, Try.ntmps48
            go_wp2
            go_ret
            exact ⟨by rw [HR.out]; exact ret_bool (by simp; omega), rfl⟩
      · have HR := Lib.hid (show plainB 2 l = false by rw [HE.out]; simp only [hx, decide_false, Bool.false_and])
        clear hcell HE
        generalize l.getD 0 0 = x at c0 hx
        have d1 : decide ((x : Int) < 128) = false := decide_eq_false (by omega)
        go_enter Try.func48, Try.ntmps48
        go_wp2
        go_ret
        exact ⟨by rw [HR.out]; rfl, rfl⟩
  have e2 := lit_beq_false h2
  by_cases h3 : t = 3
  · subst h3
    rcases Nat.eq_zero_or_pos l.length with h0 | h0
    · have HE : Hid (plainB 3 l = false) := by simp [plainB, h0, Hid]
      have d0 : decide (0 < (l.length : Int)) = false := decide_eq_false (by omega)
      have d1 : decide (0 < l.length) = false := decide_eq_false (by omega)
      clear h0
      go_enter Try.func48, Try.ntmps48
      go_wp2
      go_ret
      exact ⟨by rw [HE.out]; rfl, rfl⟩
    · obtain ⟨b, off, rfl, _, _, hcell⟩ := H.out.num h0
      have c0 := hcell 0 h0
      rw [Nat.add_zero] at c0
      have HE : Hid (plainB 3 l = decide (l.getD 0 0 = 0)) := by simp [plainB, h0, Hid]
      have d0 : decide (0 < (l.length : Int)) = true := decide_eq_true (by omega)
      clear hcell
      generalize l.getD 0 0 = x at c0 HE
      go_enter Try.func48, Try.ntmps48
      go_wp2
      go_ret
      exact ⟨by rw [HE.out]; exact ret_bool (by rw [Bool.eq_iff_iff]; simp), rfl⟩
  have e3 := lit_beq_false h3
  by_cases h4 : t = 4
  · subst h4
    have HE : Hid (plainB 4 l = true) := by simp [plainB, Hid]
    go_enter Try.func48, Try.ntmps48
    go_wp2
    go_ret
    exact ⟨by rw [HE.out]; rfl, rfl⟩
  have e4 := lit_beq_false h4
  by_cases h5 : t = 5
  · subst h5
    have HE : Hid (plainB 5 l = decide (l.length = 0)) := by simp [plainB, Hid]
    go_enter Try.func48, Try.ntmps48
    go_wp2
    go_ret
    exact ⟨by rw [HE.out]; exact ret_bool (by rw [Bool.eq_iff_iff]; simp), rfl⟩
  have e5 := lit_beq_false h5
  by_cases h6 : t = 6
  · subst h6
    have HE : Hid (plainB 6 l = nameB l) := by simp [plainB, Hid]
    go_enter Try.func48, Try.ntmps48
    go_wp2_with (go_at_call 56; refine (der_name l A c L B _ hl hc H.out).mono ?_; rintro e w' ⟨rfl, rfl⟩)
    go_ret
    exact ⟨by rw [HE.out]; rfl, rfl⟩
  have e6 := lit_beq_false h6
  have HE := Lib.hid (plainB_other (b := l) h2 h3 h4 h5 h6)
  clear h2 h3 h4 h5 h6
  go_enter Try.func48, Try.ntmps48
  go_wp2
  go_ret
  exact ⟨by rw [HE.out]; rfl, rfl⟩
end Go.Proofs.Ytanelmmklnpohaa
