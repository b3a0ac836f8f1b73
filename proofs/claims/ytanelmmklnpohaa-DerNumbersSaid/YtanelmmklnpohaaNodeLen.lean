/-
  DER in plain Lean: how long what is written may be.
  Conditions: none; lemmas alone.
-/
import Derived.Test.YtanelmmklnpohaaNodeRead
namespace Go.Proofs.Ytanelmmklnpohaa
mutual
def smallN : Nd → Prop
  | .mk _ b ks => b.length ≤ 1048576 ∧ smallKs ks
def smallKs : List Nd → Prop
  | [] => True
  | k :: r => smallN k ∧ smallKs r
end
theorem lenBytes_le {n : Nat} (h : n < 2147483648) : (lenBytes n).length ≤ 5 := by
  rw [lenBytes_length]
  have : blen n ≤ 31 := blen_le.2 h
  split <;> omega
mutual
theorem put_lenM (M : Nat) (hM1 : 1048590 ≤ M) (hM2 : 1024 * M < 1100000000) : ∀ n : Nd, smallN n → sizeN n ≤ 1024 → (putN n).length ≤ sizeN n * M
  | .mk t b ks, h, hs => by
    unfold smallN at h
    unfold sizeN at hs ⊢
    unfold putN
    have hk := putKs_lenM M hM1 hM2 ks h.2 (by omega)
    have hsm : sizeKs ks * M ≤ 1024 * M := Nat.mul_le_mul_right _ (by omega)
    rw [Nat.add_mul, Nat.one_mul]
    generalize sizeKs ks * M = q at *
    have key : (if t = 48 then putKs ks else b).length ≤ q + 1048576 := by
      split
      · omega
      · omega
    generalize (if t = 48 then putKs ks else b) = c at key
    rw [headed_length]
    have := lenBytes_le (n := c.length) (by omega)
    omega
theorem putKs_lenM (M : Nat) (hM1 : 1048590 ≤ M) (hM2 : 1024 * M < 1100000000) : ∀ ks : List Nd, smallKs ks → sizeKs ks ≤ 1024 → (putKs ks).length ≤ sizeKs ks * M
  | [], _, _ => by simp [putKs]
  | k :: r, h, hs => by
    unfold smallKs at h
    unfold sizeKs at hs ⊢
    unfold putKs
    have h1 := put_lenM M hM1 hM2 k h.1 (by omega)
    have h2 := putKs_lenM M hM1 hM2 r h.2 (by omega)
    rw [List.length_append, Nat.add_mul]
    omega
end
theorem put_len {n : Nd} (h : smallN n) (hs : sizeN n ≤ 1024) : (putN n).length ≤ 1073800000 := by
  have h1 := put_lenM 1048600 (by omega) (by omega) n h hs
  have h2 : sizeN n * 1048600 ≤ 1024 * 1048600 := Nat.mul_le_mul_right _ hs
  omega
theorem putKs_len {ks : List Nd} (h : smallKs ks) (hs : sizeKs ks ≤ 1024) : (putKs ks).length ≤ 1073800000 := by
  have h1 := putKs_lenM 1048600 (by omega) (by omega) ks h hs
  have h2 : sizeKs ks * 1048600 ≤ 1024 * 1048600 := Nat.mul_le_mul_right _ hs
  omega
theorem bebytes_succ (j n : Nat) : bebytes (j + 1) n = (n / 256 ^ j % 256) :: bebytes j n := by
  unfold bebytes
  rw [List.range_succ_eq_map, List.map_cons, List.map_map]
  simp only [Nat.add_sub_cancel, Nat.sub_zero, List.cons.injEq, true_and]
  apply List.map_congr_left
  intro i hi
  simp only [List.mem_range] at hi
  simp only [Function.comp]
  rw [show j - i.succ = j - 1 - i from by omega]
theorem putKs_snoc : ∀ (ks : List Nd) (q : Nat) (k : Nd) (r : List Nd), ks.drop q = k :: r → putKs (ks.take q) ++ putN k = putKs (ks.take (q + 1))
  | [], q, k, r, h => by simp at h
  | x :: s, 0, k, r, h => by
    simp only [List.drop_zero, List.cons.injEq] at h
    obtain ⟨rfl, rfl⟩ := h
    simp [putKs]
  | x :: s, q + 1, k, r, h => by
    simp only [List.drop_succ_cons] at h
    have := putKs_snoc s q k r h
    simp only [List.take_succ_cons, putKs, List.append_assoc, this]
theorem putKs_take_le : ∀ (ks : List Nd) (q : Nat), (putKs (ks.take q)).length ≤ (putKs ks).length
  | [], q => by simp [putKs]
  | x :: s, 0 => by simp [putKs]
  | x :: s, q + 1 => by
    have := putKs_take_le s q
    simp only [List.take_succ_cons, putKs, List.length_append]
    omega
theorem div_pow_succ (n j : Nat) : n / 256 ^ j / 256 = n / 256 ^ (j + 1) := by
  rw [Nat.div_div_eq_div_mul, ← Nat.pow_succ]
theorem len_steps (n j : Nat) : (n / 256 ^ j = 0 ↔ (blen n + 7) / 8 ≤ j) := by
  rw [Nat.div_eq_zero_iff_lt (Nat.pow_pos (by omega)), show (256 : Nat) = 2 ^ 8 from rfl, ← Nat.pow_mul, ← blen_le]
  omega

/-! ### heads by cases -/
theorem headB_short {l : List Nat} (h : l.length < 2) : headB l = none := by unfold headB; rw [if_pos h]
theorem headB_two (x y : Nat) (r : List Nat) : headB (x :: y :: r) =
    if y < 128 then (if r.length < y then none else some (x, r.take y, r.drop y))
    else if y - 128 < 1 ∨ 3 < y - 128 ∨ r.length < y - 128 ∨ r.getD 0 0 = 0 then none
    else if beval (r.take (y - 128)) < 128 then none
    else if (r.drop (y - 128)).length < beval (r.take (y - 128)) then none
    else some (x, (r.drop (y - 128)).take (beval (r.take (y - 128))), (r.drop (y - 128)).drop (beval (r.take (y - 128)))) := by
  conv => lhs; unfold headB
  rw [if_neg (by simp)]
  simp only [List.getD_cons_zero, List.getD_cons_succ, List.drop_succ_cons, List.drop_zero]
end Go.Proofs.Ytanelmmklnpohaa
