/-
  Walk of the law DerMany: a node whose kids share one another is refused as soon as it has more nodes than may be.
  Conditions: none beyond the walks' own.
-/
import Derived.Test.YtanelmmklnpohaaDer19
namespace Go.Proofs.Ytanelmmklnpohaa
open Go.RowKit
set_option linter.unusedVariables false
set_option linter.unusedSimpArgs false

/-! ### Plain: the node of so many levels, each of so many kids -/
def full (k : Nat) : Nat → Nd
  | 0 => IntN 0
  | m + 1 => .mk 48 [] (List.replicate k (full k m))
def fsize (k : Nat) : Nat → Nat
  | 0 => 1
  | m + 1 => 1 + k * fsize k m
theorem int0 : IntN 0 = .mk 2 [0] [] := by
  have : bebytes (blen 0 / 8 + 1) 0 = [0] := by decide +kernel
  unfold IntN
  rw [this]
theorem size_rep (x : Nd) : ∀ j, sizeKs (List.replicate j x) = j * sizeN x
  | 0 => by simp [sizeKs]
  | j + 1 => by rw [List.replicate_succ]; simp only [sizeKs]; rw [size_rep x j, Nat.succ_mul]; omega
theorem deep_rep (x : Nd) : ∀ j, 0 < j → deepKs (List.replicate j x) = deepN x
  | 0, h => by omega
  | 1, _ => by simp [List.replicate_succ, deepKs]
  | j + 2, _ => by rw [List.replicate_succ]; simp only [deepKs]; rw [deep_rep x (j + 1) (by omega)]; omega
theorem ok_rep {x : Nd} (h : okN x = true) : ∀ j, okN.okKs (List.replicate j x) = true
  | 0 => by simp [okN.okKs]
  | j + 1 => by rw [List.replicate_succ]; simp only [okN.okKs, h, ok_rep h j]; rfl
theorem full_size (k : Nat) : ∀ m, sizeN (full k m) = fsize k m
  | 0 => by unfold full fsize; rw [int0]; simp [sizeN, sizeKs]
  | m + 1 => by unfold full fsize; simp only [sizeN]; rw [size_rep, full_size k m]
theorem full_deep (k : Nat) (hk : 0 < k) : ∀ m, deepN (full k m) = m + 1
  | 0 => by unfold full; rw [int0]; simp [deepN, deepKs]
  | m + 1 => by unfold full; simp only [deepN]; rw [deep_rep _ _ hk, full_deep k hk m]; omega
theorem full_ok (k : Nat) : ∀ m, okN (full k m) = true
  | 0 => by unfold full; rw [int0]; decide
  | m + 1 => by unfold full; unfold okN; rw [if_neg (by decide), ok_rep (full_ok k m)]; simp
theorem full_may (k : Nat) (hk : 0 < k) (m : Nat) : MayN (full k m) = (decide (fsize k m ≤ 1024) && decide (m < 16)) := by
  have h := (may_iff (full k m) 0 1024).1
  rw [full_size, full_deep k hk, full_ok] at h
  unfold MayN
  rw [Bool.eq_iff_iff, h]
  simp only [Bool.and_eq_true, decide_eq_true_eq, true_and]
  omega
theorem put_rep (x : Nd) : ∀ j, (putKs (List.replicate j x)).length = j * (putN x).length
  | 0 => by simp [putKs]
  | j + 1 => by rw [List.replicate_succ]; simp only [putKs, List.length_append]; rw [put_rep x j, Nat.succ_mul]; omega
theorem full_put (k : Nat) : ∀ m, fsize k m ≤ 1024 → (putN (full k m)).length ≤ 6 * fsize k m
  | 0, _ => by unfold full fsize; rw [int0]; decide +kernel
  | m + 1, h => by
    unfold full
    unfold putN
    rw [if_pos rfl, headed_length, put_rep]
    unfold fsize at h ⊢
    rcases Nat.eq_zero_or_pos k with h0 | h0
    · subst h0
      rw [Nat.zero_mul]
      have := lenBytes_le (n := 0) (by omega)
      omega
    · have h1 : fsize k m ≤ k * fsize k m := Nat.le_mul_of_pos_left _ h0
      have ih := full_put k m (by omega)
      have h2 : k * (putN (full k m)).length ≤ k * (6 * fsize k m) := Nat.mul_le_mul_left _ ih
      have h3 : k * (6 * fsize k m) = 6 * (k * fsize k m) := by rw [← Nat.mul_assoc, Nat.mul_comm k 6, Nat.mul_assoc]
      have := lenBytes_le (n := k * (putN (full k m)).length) (by omega)
      omega
theorem full_write (k : Nat) (hk : 0 < k) (m : Nat) : (MayN (full k m) = true → ∃ c, WriteN (full k m) = some c ∧ 0 < c.length) ∧ (MayN (full k m) = false → WriteN (full k m) = none) := by
  refine ⟨fun h => ?_, fun h => by unfold WriteN; rw [h]; rfl⟩
  have hs := (ok_of_may h).2.2
  rw [full_size] at hs
  have hp := full_put k m hs
  refine ⟨putN (full k m), ?_, ?_⟩
  · unfold WriteN
    rw [h, if_pos rfl, write_eq _ (full_ok k m), if_pos (by omega)]
  · have := putN_ge (full k m); omega
/-- How the law counts. -/
def cnt1 (k : Nat) (c : Nat) : Nat := if c ≤ 1024 then 1 + k * c else c
def Cnts (k m c : Nat) : Prop := (fsize k m ≤ 1024 ∧ c = fsize k m) ∨ (1024 < fsize k m ∧ 1024 < c ∧ c ≤ 6000)
theorem Cnts.next {k m c : Nat} (hk : 0 < k) (hk5 : k ≤ 5) (h : Cnts k m c) : Cnts k (m + 1) (cnt1 k c) := by
  unfold Cnts cnt1 at *
  rw [show fsize k (m + 1) = 1 + k * fsize k m from rfl]
  rcases h with ⟨h1, rfl⟩ | ⟨h1, h2, h3⟩
  · rw [if_pos h1]
    have h4 : k * fsize k m ≤ 5 * fsize k m := Nat.mul_le_mul_right _ hk5
    rcases Nat.lt_or_ge 1024 (1 + k * fsize k m) with h | h
    · exact .inr ⟨h, h, by omega⟩
    · exact .inl ⟨h, rfl⟩
  · have h4 : fsize k m ≤ k * fsize k m := Nat.le_mul_of_pos_left _ hk
    rw [if_neg (by omega)]
    exact .inr ⟨by omega, h2, h3⟩
theorem Cnts.may {k m c : Nat} (h : Cnts k m c) : decide (fsize k m ≤ 1024) = decide (c ≤ 1024) := by
  unfold Cnts at h
  rw [decide_eq_decide]
  omega
theorem Cnts.le {k m c : Nat} (h : Cnts k m c) : c ≤ 6000 := by
  unfold Cnts at h
  omega

/-! ### In memory: one node, many times; the block bn, that holds the node at hand, is none of its blocks -/
def FullAt (w : World) (L bn B k : Nat) : Nat → List Value → Prop
  | 0, cs => RepN w L bn (IntN 0) cs
  | m + 1, cs => ∃ g c' u0 u1 u2, cs = [.int .i64 48, .slice none 0 0, .slice (some ⟨g, 0, none⟩) k c'] ∧ k ≤ c' ∧ c' ≤ maxLen ∧ bn < g ∧ g < B ∧
      (∀ q, q < k → w.cell? ⟨g, q * 3, none⟩ = some u0 ∧ w.cell? ⟨g, q * 3 + 1, none⟩ = some u1 ∧ w.cell? ⟨g, q * 3 + 2, none⟩ = some u2) ∧ FullAt w L bn B k m [u0, u1, u2]
theorem FullAt.keep {w w' : World} {L bn B k : Nat} (hL : L ≤ bn) (hB : bn ≤ B) (hk : ∀ p : Addr, L ≤ p.block → p.block < B → p.block ≠ bn → w'.cell? p = w.cell? p) : ∀ {m : Nat} {cs : List Value}, FullAt w L bn B k m cs → FullAt w' L bn B k m cs
  | 0, cs, h => by
    unfold FullAt at h ⊢
    exact RepN.keep (fun p h1 h2 => hk p h1 (by omega) (by omega)) h
  | m + 1, cs, h => by
    unfold FullAt at h ⊢
    obtain ⟨g, c', u0, u1, u2, e, h1, h2, h3, h4, h5, h6⟩ := h
    refine ⟨g, c', u0, u1, u2, e, h1, h2, h3, h4, fun q hq => ?_, FullAt.keep hL hB hk h6⟩
    obtain ⟨a, b, c⟩ := h5 q hq
    have e : ∀ o, w'.cell? ⟨g, o, none⟩ = w.cell? ⟨g, o, none⟩ := fun o => hk _ (show L ≤ g by omega) h4 (show g ≠ bn by omega)
    exact ⟨(e _).trans a, (e _).trans b, (e _).trans c⟩
theorem FullAt.wide {w : World} {L bn B B' k : Nat} (hB : B ≤ B') : ∀ {m : Nat} {cs : List Value}, FullAt w L bn B k m cs → FullAt w L bn B' k m cs
  | 0, cs, h => by unfold FullAt at h ⊢; exact h
  | m + 1, cs, h => by
    unfold FullAt at h ⊢
    obtain ⟨g, c', u0, u1, u2, e, h1, h2, h3, h4, h5, h6⟩ := h
    exact ⟨g, c', u0, u1, u2, e, h1, h2, h3, by omega, h5, h6.wide hB⟩
theorem rep_rep {w : World} {L B g : Nat} {x : Nd} {u0 u1 u2 : Value} (hx : RepN w L B x [u0, u1, u2]) : ∀ (j off : Nat), (∀ q, q < j → w.cell? ⟨g, off + q * 3, none⟩ = some u0 ∧ w.cell? ⟨g, off + q * 3 + 1, none⟩ = some u1 ∧ w.cell? ⟨g, off + q * 3 + 2, none⟩ = some u2) → RepKs w L B g off (List.replicate j x)
  | 0, off, _ => by unfold RepKs; trivial
  | j + 1, off, h => by
    rw [List.replicate_succ]
    unfold RepKs
    obtain ⟨a, b, c⟩ := h 0 (by omega)
    rw [show off + 0 * 3 = off by omega] at a b c
    refine ⟨⟨u0, u1, u2, a, b, c, hx⟩, rep_rep hx j (off + 3) fun q hq => ?_⟩
    have := h (q + 1) (by omega)
    rwa [show off + (q + 1) * 3 = off + 3 + q * 3 by omega] at this
theorem FullAt.rep {w : World} {L bn B k : Nat} (hL : L ≤ bn) (hB : bn ≤ B) (hk5 : k ≤ 5) : ∀ {m : Nat} {cs : List Value}, FullAt w L bn B k m cs → RepN w L B (full k m) cs
  | 0, cs, h => by
    unfold FullAt at h
    unfold full
    exact h.wide (Nat.le_refl _) hB
  | m + 1, cs, h => by
    unfold FullAt at h
    obtain ⟨g, c', u0, u1, u2, rfl, h1, h2, h3, h4, h5, h6⟩ := h
    unfold full
    unfold RepN
    refine ⟨none, 0, some ⟨g, 0, none⟩, c', by simp, by simp, by simp, by simpa using h1, h2, ⟨by simp, by simp; omega⟩, fun _ _ => ⟨rfl, rfl⟩, Dig.nil, Rd.nil, fun _ => ⟨g, 0, rfl, by omega, h4, ?_⟩⟩
    exact rep_rep (h6.rep hL hB hk5) k 0 (by simpa using h5)
theorem FullAt.form {w : World} {L bn B k m : Nat} (hL : L ≤ bn) (hB : bn ≤ B) (hk5 : k ≤ 5) {cs : List Value} (h : FullAt w L bn B k m cs) : ∃ t A n c A' n' c', cs = [.int .i64 t, .slice A n c, .slice A' n' c'] := box_node (h.rep hL hB hk5)
def reps (v0 v1 v2 : Value) : Nat → List Value
  | 0 => []
  | j + 1 => reps v0 v1 v2 j ++ [v0, v1, v2]
theorem reps_length (v0 v1 v2 : Value) : ∀ j, (reps v0 v1 v2 j).length = j * 3
  | 0 => rfl
  | j + 1 => by unfold reps; rw [List.length_append, reps_length v0 v1 v2 j]; simp; omega
theorem reps_get (v0 v1 v2 : Value) : ∀ (j q : Nat), q < j → (reps v0 v1 v2 j)[q * 3]? = some v0 ∧ (reps v0 v1 v2 j)[q * 3 + 1]? = some v1 ∧ (reps v0 v1 v2 j)[q * 3 + 2]? = some v2
  | 0, q, h => by omega
  | j + 1, q, h => by
    unfold reps
    have hl := reps_length v0 v1 v2 j
    by_cases hq : q < j
    · obtain ⟨a, b, c⟩ := reps_get v0 v1 v2 j q hq
      exact ⟨by rw [List.getElem?_append_left (by omega)]; exact a, by rw [List.getElem?_append_left (by omega)]; exact b, by rw [List.getElem?_append_left (by omega)]; exact c⟩
    · obtain rfl : q = j := by omega
      exact ⟨by rw [List.getElem?_append_right (by omega), hl]; simp, by rw [List.getElem?_append_right (by omega), hl, show q * 3 + 1 - q * 3 = 1 by omega]; simp, by rw [List.getElem?_append_right (by omega), hl, show q * 3 + 2 - q * 3 = 2 by omega]; simp⟩

theorem many_step {w1 wo wi : World} {bn k q c3 : Nat} {A3 : Option Addr} {v0 v1 v2 : Value} (hk : 0 < k) (hbn : bn < wo.heap.size) (hL : w1.heap.size ≤ bn)
    (hX : Blk wi wo.heap.size (.int .i64 48) (.slice none 0 0) (.slice A3 k c3)) (hO : wi.ownsRow (wo.heap.size + 1) 25 3 (.slice A3 k c3) k (reps v0 v1 v2 k))
    (hF : FullAt wo w1.heap.size bn wo.heap.size k q [v0, v1, v2]) (hY : Below wo.heap.size wo wi) :
    FullAt (((wi.setCell ⟨bn, 0, none⟩ (.int .i64 48)).setCell ⟨bn, 1, none⟩ (.slice none 0 0)).setCell ⟨bn, 2, none⟩ (.slice A3 k c3)) w1.heap.size bn (((wi.setCell ⟨bn, 0, none⟩ (.int .i64 48)).setCell ⟨bn, 1, none⟩ (.slice none 0 0)).setCell ⟨bn, 2, none⟩ (.slice A3 k c3)).heap.size k (q + 1) [.int .i64 48, .slice none 0 0, .slice A3 k c3] := by
  have hs := hY.size
  rw [size_set3]
  refine FullAt.keep (w := wi) hL (by omega) (fun p h1 h2 h3 => cell_set3 h3 _ _ _) ?_
  obtain ⟨A, c, e, h1, h2⟩ := own_form hO
  simp only [Value.slice.injEq] at e
  obtain ⟨rfl, _, rfl⟩ := e
  obtain ⟨g, cap, e, h3, h4⟩ := hO.form hk
  simp only [Value.slice.injEq] at e
  obtain ⟨rfl, _, rfl⟩ := e
  unfold FullAt
  refine ⟨g, c3, v0, v1, v2, rfl, h1, h2, by omega, h4, fun j hj => ?_, (hF.keep hL (by omega) (fun p p1 p2 p3 => hY.cell (by omega))).wide (by omega)⟩
  have hc := hO.cells (g := g) rfl
  obtain ⟨a, b, c⟩ := reps_get v0 v1 v2 k j hj
  have a' := hc _ _ a
  have b' := hc _ _ b
  have c' := hc _ _ c
  rw [add_plain, Nat.zero_add] at a' b' c'
  exact ⟨a', b', c'⟩
/-- What holds at the head of the great loop. -/
def ManyInv (w1 w : World) (bn k m : Nat) (wr : World) : Prop :=
  ∃ t A n c A' n' c', Hid (Blk wr bn (.int .i64 t) (.slice A n c) (.slice A' n' c')) ∧ Hid (FullAt wr w1.heap.size bn wr.heap.size k m [.int .i64 t, .slice A n c, .slice A' n' c']) ∧ Hid (Below w1.heap.size w wr) ∧ bn < wr.heap.size

set_option maxHeartbeats 8000000 in
set_option maxRecDepth 100000 in
theorem law_DerMany (lv kd : Int) (w : World) (hl : -9223372036854775808 ≤ lv ∧ lv ≤ 9223372036854775807) (hk : -9223372036854775808 ≤ kd ∧ kd ≤ 9223372036854775807) :
    Calls Try.prog 6 #[.int .i64 lv, .int .i64 kd] w fun e w' => e = .returned (.bool true) ∧ Below w.heap.size w w' := by
  have hl1 := hl.1
  have hl2 := hl.2
  have hk1 := hk.1
  have hk2 := hk.2
  clear hl hk
  by_cases g : lv < 0 ∨ 16 < lv ∨ kd < 1 ∨ 5 < kd
  · by_cases g1 : lv < 0
    · have d1 : decide (lv < 0) = true := decide_eq_true g1
      go_enter Try.func6, Try.ntmps6
      go_wp2_with (go_at_call 7; refine (law_begun _).mono ?_; rintro e w1 ⟨rfl, hb1⟩)
      go_ret
      exact ⟨rfl, hb1⟩
    have d1 : decide (lv < 0) = false := decide_eq_false g1
    by_cases g2 : 16 < lv
    · have d2 : decide (16 < lv) = true := decide_eq_true g2
      go_enter Try.func6, Try.ntmps6
      go_wp2_with (go_at_call 7; refine (law_begun _).mono ?_; rintro e w1 ⟨rfl, hb1⟩)
      go_ret
      exact ⟨rfl, hb1⟩
    have d2 : decide (16 < lv) = false := decide_eq_false g2
    by_cases g3 : kd < 1
    · have d3 : decide (kd < 1) = true := decide_eq_true g3
      go_enter Try.func6, Try.ntmps6
      go_wp2_with (go_at_call 7; refine (law_begun _).mono ?_; rintro e w1 ⟨rfl, hb1⟩)
      go_ret
      exact ⟨rfl, hb1⟩
    have d3 : decide (kd < 1) = false := decide_eq_false g3
    have d4 : decide (5 < kd) = true := decide_eq_true (by omega)
    go_enter Try.func6, Try.ntmps6
    go_wp2_with (go_at_call 7; refine (law_begun _).mono ?_; rintro e w1 ⟨rfl, hb1⟩)
    go_ret
    exact ⟨rfl, hb1⟩
  · obtain ⟨N, rfl⟩ : ∃ N : Nat, lv = (N : Int) := ⟨lv.toNat, by omega⟩
    obtain ⟨k, rfl⟩ : ∃ k : Nat, kd = (k : Int) := ⟨kd.toNat, by omega⟩
    have hN : N ≤ 16 := by omega
    have hk0 : 0 < k := by omega
    have hk5 : k ≤ 5 := by omega
    have d1 : decide ((N : Int) < 0) = false := decide_eq_false (by omega)
    have d2 : decide (16 < (N : Int)) = false := decide_eq_false (by omega)
    have d3 : decide ((k : Int) < 1) = false := decide_eq_false (by omega)
    have d4 : decide (5 < (k : Int)) = false := decide_eq_false (by omega)
    clear g hl1 hl2 hk1 hk2
    go_enter Try.func6, Try.ntmps6
    go_wp2_with fail
    refine Calls.mono (law_begun _) ?_
    rintro e w1 ⟨rfl, hb1⟩
    have B1 := Lib.hid hb1
    clear hb1
    go_wp2_with fail
    have N0 : Num w1 0 0 (2 ^ 64) 0 (.slice none 0 0) := ⟨[], none, 0, rfl, by simp, by simp, by simp, Dig.nil, rfl, Rd.nil⟩
    refine Calls.mono (der_Int N0 (Nat.zero_le _) (by decide)) ?_
    rintro e w2 ⟨hb2, t2, A2, n2, c2, A2', n2', c2', rfl, hr2⟩
    have B2 := Lib.hid ((below_then B1.out B1.out.size hb2).alloc (by have := B1.out.size; have := hb2.size; omega) (.cells #[.int .i64 t2, .slice A2 n2 c2, .slice A2' n2' c2'] 25))
    have K2 := Lib.hid (Blk.made (w := w2) (v0 := .int .i64 t2) (v1 := .slice A2 n2 c2) (v2 := .slice A2' n2' c2') (t := 25) (g := w2.heap.size) rfl)
    have F2 : Hid (FullAt (w2.alloc (.cells #[.int .i64 t2, .slice A2 n2 c2, .slice A2' n2' c2'] 25)) w1.heap.size w2.heap.size (w2.alloc (.cells #[.int .i64 t2, .slice A2 n2 c2, .slice A2' n2' c2'] 25)).heap.size k 0 [.int .i64 t2, .slice A2 n2 c2, .slice A2' n2' c2']) :=
      Lib.hid (by unfold FullAt; exact hr2.alloc (Nat.le_refl _) _)
    have L2 := Lib.hid (show w1.heap.size ≤ w2.heap.size from hb2.size)
    have hs3 : (w2.alloc (.cells #[.int .i64 t2, .slice A2 n2 c2, .slice A2' n2' c2'] 25)).heap.size = w2.heap.size + 1 := by simp
    have LW := Lib.hid (show w.heap.size ≤ w1.heap.size from B1.out.size)
    clear hb2 hr2 N0 B1
    go_wp2
    generalize w2.alloc (.cells #[.int .i64 t2, .slice A2 n2 c2, .slice A2' n2' c2'] 25) = w3 at *
    have S3 := Lib.hid hs3
    clear hs3
    go_loopw [7, 8] (fun cv i wr => ∃ (q c : Nat) (t : Int) (A : Option Addr) (n c1 : Nat) (A' : Option Addr) (n' c1' : Nat), i = .int .i64 q ∧ q ≤ N ∧ cv = .int .i64 c ∧ Hid (Cnts k q c) ∧ Hid (Blk wr w2.heap.size (.int .i64 t) (.slice A n c1) (.slice A' n' c1')) ∧
        Hid (FullAt wr w1.heap.size w2.heap.size wr.heap.size k q [.int .i64 t, .slice A n c1, .slice A' n' c1']) ∧ Hid (Below w.heap.size w wr)) (fun cv i _ => N - (intOf i).toNat)
    case atStart => exact ⟨0, 1, t2, A2, n2, c2, A2', n2', c2', rfl, Nat.zero_le _, rfl, Lib.hid (.inl ⟨show 1 ≤ 1024 by omega, rfl⟩), K2, F2, B2⟩
    case round =>
      obtain ⟨q, c, t, A, n, c1, A', n', c1', rfl, hq, rfl, HC, HK, HF, HB⟩ := hrel
      clear K2 F2 B2
      have hc6 := HC.out.le
      have hbn := HK.out.lt
      have HBN := Lib.hid hbn
      rcases Nat.lt_or_ge q N with hlt | hge
      · have e1 : decide ((q : Int) < (N : Int)) = true := decide_eq_true (by omega)
        obtain ⟨wo, rfl⟩ : ∃ wo : World, wo = wr := ⟨_, rfl⟩
        have X0 := Lib.hid (Blk.made (w := wo) (v0 := .int .i64 48) (v1 := .slice none 0 0) (v2 := .slice none 0 0) (t := 25) (g := wo.heap.size) rfl)
        have Y0 := Lib.hid ((Below.refl wo.heap.size wo).alloc (Nat.le_refl _) (.cells #[.int .i64 48, .slice none 0 0, .slice none 0 0] 25))
        clear hbn
        go_wp2
        generalize wo.alloc (.cells #[.int .i64 48, .slice none 0 0, .slice none 0 0] 25) = wa at *
        go_loopw [10] (fun jv wi => ∃ (j : Nat) (A3 : Option Addr) (c3 : Nat), jv = .int .i64 j ∧ j ≤ k ∧ Hid (Blk wi wo.heap.size (.int .i64 48) (.slice none 0 0) (.slice A3 j c3)) ∧
            Hid (wi.ownsRow (wo.heap.size + 1) 25 3 (.slice A3 j c3) j (reps (.int .i64 t) (.slice A n c1) (.slice A' n' c1') j)) ∧ Hid (Below wo.heap.size wo wi)) (fun jv _ => k - (intOf jv).toNat)
        case atStart => exact ⟨0, none, 0, rfl, Nat.zero_le _, X0, World.ownsRow_nil _ _ _ _, Y0⟩
        case round =>
          obtain ⟨j, A3, c3, rfl, hj, HX, HO, HY⟩ := hrel
          clear X0 Y0
          obtain ⟨⟨x0, x1, x2⟩, xf0, xf1, xf2⟩ := HX.out
          have HKi := Lib.hid (HK.out.below HY.out HBN.out)
          obtain ⟨⟨k0, k1, k2⟩, kf0, kf1, kf2⟩ := HKi.out
          rcases Nat.lt_or_ge j k with hlj | hgj
          · have e2 : decide ((j : Int) < (k : Int)) = true := decide_eq_true (by omega)
            have HXL := Lib.hid HX.out.lt
            go_wp2_with (at_builtin
                         refine wpList_append_rd _ rfl (.tmp 43) (.tmp 45) _ rfl (wo.heap.size + 1) 25 (.agg #[.int .i64 0, .slice none 0 0, .slice none 0 0]) 3 56 Try.underlying23 info_node rfl (by omega) (.slice A3 j c3) j _ rfl (HO.out.alloc _)
                           _ _ _ 1 1 [.int .i64 t, .slice A n c1, .slice A' n' c1'] rfl rfl (rd_lit3 _ _ _ _ _) (by intro u hu; simp at hu; rcases hu with rfl | rfl | rfl <;> rfl) (by simp only [maxLen]; omega) (by omega) (by have := HXL.out; simp; omega) ?_
                         intro v6 w6 hown6 hg6 hat6 hnil6
                         obtain ⟨A6, c6, rfl, hc6', hm6⟩ := own_form hown6
                         have HO6 := Lib.hid hown6
                         have hob : ∀ g, (Value.slice A3 j c3).ownBlock = some g → wo.heap.size + 1 ≤ g := fun g e => (HO.out.lt g e).1
                         have HY6 := Lib.hid ((HY.out.alloc (by have := HXL.out; omega) _).grown hg6 (by have := HXL.out; simp; omega) (fun g e => by have := hob g e; omega))
                         have HX6 := Lib.hid ((HX.out.alloc _).grown hg6 (fun e => by have := hob _ e.symm; omega))
                         clear hown6 hg6 hat6 hnil6 hob x0 x1 x2 xf0 xf1 xf2 k0 k1 k2 kf0 kf1 kf2
                         obtain ⟨⟨x0, x1, x2⟩, xf0, xf1, xf2⟩ := HX6.out)
            go_roundw
            case rel => exact ⟨j + 1, A6, c6, by go_num, hlj, HX6.out.set2 _, ownsRow_setCell_below HO6.out (a := ⟨wo.heap.size, 2, none⟩) (by show wo.heap.size < wo.heap.size + 1; omega) _, HY6.out.setCell (p := ⟨wo.heap.size, 2, none⟩) (Nat.le_refl _) _⟩
            case measure => simp [intOf]; omega
          · obtain rfl : j = k := by omega
            have e2 : decide ((j : Int) < (j : Int)) = false := decide_eq_false (by omega)
            have STEP := Lib.hid (many_step hk0 HBN.out L2.out HX.out HO.out HF.out HY.out)
            have HKS := Lib.hid (HKi.out.set3 (.int .i64 48) (.slice none 0 0) (.slice A3 j c3))
            have HBS := Lib.hid (below_set3 (below_then HB.out HB.out.size HY.out) (show w.heap.size ≤ w2.heap.size by have := LW.out; have := L2.out; omega) (.int .i64 48) (.slice none 0 0) (.slice A3 j c3))
            have HCN := Lib.hid (HC.out.next hk0 hk5)
            have hjc : (j : Int) * (c : Int) = ((j * c : Nat) : Int) := by simp
            have hjc2 : j * c ≤ 30000 := by have := Nat.mul_le_mul hk5 hc6; omega
            by_cases g2 : c ≤ 1024
            · have e3 : decide ((c : Int) ≤ 1024) = true := decide_eq_true (by omega)
              have hcn : cnt1 j c = 1 + j * c := by unfold cnt1; rw [if_pos g2]
              have HCE := Lib.hid hcn
              have HJC := Lib.hid hjc
              have hj1 : 0 ≤ (j : Int) * (c : Int) := by rw [hjc]; omega
              have hj2 : (j : Int) * (c : Int) ≤ 30000 := by rw [hjc]; omega
              clear hcn hjc
              go_wp2
              go_roundw
              case rel => exact ⟨q + 1, 1 + j * c, 48, none, 0, 0, A3, j, c3, by go_num, hlt, by rw [HJC.out]; go_num, by rw [← HCE.out]; exact HCN, HKS, STEP, HBS⟩
              case measure => simp [intOf]; omega
            · have e3 : decide ((c : Int) ≤ 1024) = false := decide_eq_false (by omega)
              have hcn : cnt1 j c = c := by unfold cnt1; rw [if_neg g2]
              have HCE := Lib.hid hcn
              clear hcn hjc
              go_wp2
              go_roundw
              case rel => exact ⟨q + 1, c, 48, none, 0, 0, A3, j, c3, by go_num, hlt, rfl, by have h := HCN.out; rw [HCE.out] at h; exact h, HKS, STEP, HBS⟩
              case measure => simp [intOf]; omega
      · obtain rfl : q = N := by omega
        have e1 : decide ((q : Int) < (q : Int)) = false := decide_eq_false (by omega)
        have HR := Lib.hid (HF.out.rep L2.out (by have := HBN.out; omega) hk5)
        have hmay := full_may k hk0 q
        rw [HC.out.may] at hmay
        have HW := Lib.hid (full_write k hk0 q)
        have HM := Lib.hid hmay
        clear hmay HF HC
        obtain ⟨⟨k0, k1, k2⟩, kf0, kf1, kf2⟩ := HK.out
        go_wp2_with fail
        clear k0 k1 k2 kf0 kf1 kf2
        refine Calls.mono (der_Write HR.out (Nat.le_refl _)) ?_
        rintro e w5 ⟨A5, c5, rfl, hc5, hm5, _, hr5, hb5⟩
        have K5 := Lib.hid (HK.out.below hb5 HK.out.lt)
        have R5 := Lib.hid (HR.out.below hb5 (Nat.le_refl _))
        have S5 := Lib.hid (show wr.heap.size ≤ w5.heap.size from hb5.size)
        have B5 := Lib.hid (below_then HB.out HB.out.size hb5)
        clear hb5 hr5 hbn
        obtain ⟨⟨k0, k1, k2⟩, kf0, kf1, kf2⟩ := K5.out
        have MY := Lib.hid (der_May R5.out S5.out)
        generalize MayN (full k q) = mb at *
        cases mb with
        | true =>
          obtain ⟨ch, hw, hch⟩ := HW.out.1 rfl
          have hb := HM.out.symm
          simp only [Bool.and_eq_true, decide_eq_true_eq] at hb
          obtain ⟨hb1, hb2⟩ := hb
          rw [hw] at hc5 ⊢
          simp only [Option.getD_some, Option.isSome_some] at hc5 ⊢
          clear hw
          have e3 : decide ((c : Int) ≤ 1024) = true := decide_eq_true (by omega)
          have e4 : decide ((q : Int) < 16) = true := decide_eq_true (by omega)
          have e5 : decide (0 < (ch.length : Int)) = true := decide_eq_true (by omega)
          have e6 : decide (0 < ch.length) = true := decide_eq_true hch
          clear hch hb1 hb2 hc5
          go_wp2_with (go_at_call 11; refine MY.out.mono ?_; rintro e w6 ⟨rfl, hb6⟩)
          go_ret
          exact ⟨rfl, below_then B5.out B5.out.size hb6⟩
        | false =>
          have hw := HW.out.2 rfl
          have hb := HM.out.symm
          simp only [Bool.and_eq_false_iff, decide_eq_false_iff_not] at hb
          rw [hw] at hc5 ⊢
          simp only [Option.getD_none, Option.isSome_none, List.length_nil] at hc5 ⊢
          clear hw
          by_cases g2 : c ≤ 1024
          · have e3 : decide ((c : Int) ≤ 1024) = true := decide_eq_true (by omega)
            have e4 : decide ((q : Int) < 16) = false := decide_eq_false (by omega)
            clear hb g2
            go_wp2_with (go_at_call 11; refine MY.out.mono ?_; rintro e w6 ⟨rfl, hb6⟩)
            go_ret
            exact ⟨rfl, below_then B5.out B5.out.size hb6⟩
          · have e3 : decide ((c : Int) ≤ 1024) = false := decide_eq_false (by omega)
            clear hb g2
            go_wp2_with (go_at_call 11; refine MY.out.mono ?_; rintro e w6 ⟨rfl, hb6⟩)
            go_ret
            exact ⟨rfl, below_then B5.out B5.out.size hb6⟩
end Go.Proofs.Ytanelmmklnpohaa
