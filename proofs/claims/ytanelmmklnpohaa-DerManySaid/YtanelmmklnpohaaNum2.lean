/-
  More on numbers as lists of digits: limbs of 64 bits as pairs of digits of 32, and bytes.
  Conditions: none; lemmas alone.
-/
import Derived.Test.YtanelmmklnpohaaNum
namespace Go.Proofs.Ytanelmmklnpohaa

/-! ### Limbs cut in halves -/
def halves (xs : List Nat) (j : Nat) : Nat := if j % 2 = 0 then xs.getD (j / 2) 0 % 4294967296 else xs.getD (j / 2) 0 / 4294967296
theorem halves_even (xs : List Nat) (q : Nat) : xs.getD q 0 % 4294967296 = halves xs (2 * q) := by
  unfold halves
  rw [if_pos (by omega), Nat.mul_div_cancel_left _ (by omega)]
theorem halves_odd (xs : List Nat) (q : Nat) : xs.getD q 0 / 4294967296 = halves xs (2 * q + 1) := by
  unfold halves
  rw [if_neg (by omega), show (2 * q + 1) / 2 = q from by omega]
theorem halves_dig {xs : List Nat} (h : Dig (2 ^ 64) xs) (n : Nat) : Dig (2 ^ 32) ((List.range n).map (halves xs)) := by
  intro x hx
  simp only [List.mem_map, List.mem_range] at hx
  obtain ⟨j, _, rfl⟩ := hx
  have := h.get (by omega) (j / 2)
  unfold halves
  split
  · omega
  · omega
theorem halves_val (xs : List Nat) : ∀ n, n ≤ xs.length → val (2 ^ 32) ((List.range (2 * n)).map (halves xs)) = val (2 ^ 64) (xs.take n)
  | 0, _ => by simp [val]
  | n + 1, h => by
    rw [val_take_succ _ _ _ (by omega), show 2 * (n + 1) = 2 * n + 1 + 1 from by omega, List.range_succ, List.range_succ, List.map_append, List.map_append, List.append_assoc, val_app, halves_val xs n (by omega)]
    congr 1
    rw [List.length_map, List.length_range, ← Nat.pow_mul, ← Nat.pow_mul, show 32 * (2 * n) = 64 * n from by omega]
    congr 1
    simp only [List.map_cons, List.map_nil, List.cons_append, List.nil_append, val, ← halves_even, ← halves_odd]
    omega

/-! ### Digits joined to limbs -/
def joinB (b : Nat) : List Nat → List Nat
  | [] => []
  | [x] => [x]
  | x :: y :: r => (x + y * b) :: joinB b r
theorem joinB_length (b : Nat) : ∀ ds : List Nat, (joinB b ds).length = (ds.length + 1) / 2
  | [] => rfl
  | [x] => by simp [joinB]
  | x :: y :: r => by simp only [joinB, List.length_cons, joinB_length b r]; omega
theorem joinB_get (b : Nat) : ∀ (ds : List Nat) (q : Nat), (joinB b ds).getD q 0 = ds.getD (2 * q) 0 + ds.getD (2 * q + 1) 0 * b
  | [], q => by simp [joinB]
  | [x], 0 => by simp [joinB]
  | [x], q + 1 => by
    have e1 : 2 * (q + 1) = 2 * q + 1 + 1 := by omega
    simp [joinB, e1]
  | x :: y :: r, 0 => by simp [joinB]
  | x :: y :: r, q + 1 => by
    have e1 : 2 * (q + 1) = 2 * q + 1 + 1 := by omega
    have ih := joinB_get b r q
    simp only [joinB, e1, List.getD_cons_succ]
    exact ih
theorem joinB_val (b : Nat) : ∀ ds : List Nat, val (b * b) (joinB b ds) = val b ds
  | [] => rfl
  | [x] => by simp [joinB, val]
  | x :: y :: r => by
    simp only [joinB, val, joinB_val b r]
    rw [Nat.mul_add, Nat.mul_comm y b, Nat.add_assoc, Nat.mul_assoc]
theorem joinB_dig (b : Nat) (hb : 0 < b) : ∀ ds : List Nat, Dig b ds → Dig (b * b) (joinB b ds)
  | [], _ => Dig.nil
  | [x], h => Dig.cons.2 ⟨Nat.lt_of_lt_of_le (Dig.cons.1 h).1 (Nat.le_mul_of_pos_left b hb), Dig.nil⟩
  | x :: y :: r, h => by
    obtain ⟨h1, h2⟩ := Dig.cons.1 h
    obtain ⟨h3, h4⟩ := Dig.cons.1 h2
    refine Dig.cons.2 ⟨?_, joinB_dig b hb r h4⟩
    calc x + y * b < b + y * b := by omega
      _ = (y + 1) * b := by rw [Nat.add_mul, Nat.one_mul, Nat.add_comm]
      _ ≤ b * b := Nat.mul_le_mul_right _ h3
def joined (ds : List Nat) : List Nat := joinB (2 ^ 32) ds
theorem joined_length (ds : List Nat) : (joined ds).length = (ds.length + 1) / 2 := joinB_length _ ds
theorem joined_get (ds : List Nat) (q : Nat) : (joined ds).getD q 0 = ds.getD (2 * q) 0 + ds.getD (2 * q + 1) 0 * 2 ^ 32 := joinB_get _ ds q
theorem joined_val (ds : List Nat) : val (2 ^ 64) (joined ds) = val (2 ^ 32) ds := by
  rw [show (2 : Nat) ^ 64 = 2 ^ 32 * 2 ^ 32 from by rw [← Nat.pow_add]]
  exact joinB_val _ ds
theorem joined_dig {ds : List Nat} (h : Dig (2 ^ 32) ds) : Dig (2 ^ 64) (joined ds) := by
  rw [show (2 : Nat) ^ 64 = 2 ^ 32 * 2 ^ 32 from by rw [← Nat.pow_add]]
  exact joinB_dig _ (Nat.pow_pos (by omega)) ds h
theorem joined_canon {ds : List Nat} (h : Canon (2 ^ 32) ds) : Canon (2 ^ 64) (joined ds) := by
  refine ⟨joined_dig h.1, fun hp => ?_⟩
  rw [joined_length] at hp ⊢
  rw [joined_get]
  have h1 := h.2 (by omega)
  rcases Nat.mod_two_eq_zero_or_one ds.length with e | e
  · rw [show 2 * ((ds.length + 1) / 2 - 1) + 1 = ds.length - 1 from by omega]
    have : 0 < ds.getD (ds.length - 1) 0 * 2 ^ 32 := Nat.mul_pos (by omega) (Nat.pow_pos (by omega))
    omega
  · rw [show 2 * ((ds.length + 1) / 2 - 1) = ds.length - 1 from by omega]
    omega

/-! ### Bytes and digits of 32 bits -/
theorem byte_of_digit {xs : List Nat} (h : Dig (2 ^ 32) xs) (k : Nat) : xs.getD (k / 4) 0 / 2 ^ (8 * (k % 4)) % 256 = val (2 ^ 32) xs / 256 ^ k % 256 := by
  rw [← val_digit (by omega) h (k / 4), show (256 : Nat) = 2 ^ 8 from rfl, ← Nat.pow_mul, ← Nat.pow_mul]
  have e : 8 * k = 32 * (k / 4) + 8 * (k % 4) := by omega
  rw [e, Nat.pow_add, ← Nat.div_div_eq_div_mul]
  generalize val (2 ^ 32) xs / 2 ^ (32 * (k / 4)) = y
  have hk : 8 * (k % 4) + 8 ≤ 32 := by omega
  generalize 8 * (k % 4) = s at hk
  rw [show (32 : Nat) = s + (32 - s) from by omega, Nat.pow_add, Nat.mod_mul_right_div_self, Nat.mod_mod_of_dvd]
  exact Nat.pow_dvd_pow 2 (by omega)
theorem byte_beyond4 {xs : List Nat} (h : Dig (2 ^ 32) xs) (k : Nat) (hk : xs.length ≤ k / 4) : val (2 ^ 32) xs / 256 ^ k % 256 = 0 := by
  have := val_lt h
  rw [Nat.div_eq_of_lt, Nat.zero_mod]
  refine Nat.lt_of_lt_of_le this ?_
  rw [show (256 : Nat) = 2 ^ 8 from rfl, ← Nat.pow_mul, ← Nat.pow_mul]
  exact Nat.pow_le_pow_right (by omega) (by omega)
theorem digit_add {ys : List Nat} (hd : Dig (2 ^ 32) ys) {S c k : Nat} (hc : c < 256) (hS : val (2 ^ 32) ys = S * 256 ^ (k + 1)) :
    ys.getD (k / 4) 0 + c * 2 ^ (8 * (k % 4)) < 2 ^ 32 := by
  have hy : ys.getD (k / 4) 0 = 2 ^ (8 * (k % 4) + 8) * (S % 2 ^ (24 - 8 * (k % 4))) := by
    rw [← val_digit (by omega) hd (k / 4), hS, show (256 : Nat) = 2 ^ 8 from rfl, ← Nat.pow_mul, ← Nat.pow_mul]
    have e : 8 * (k + 1) = 32 * (k / 4) + (8 * (k % 4) + 8) := by omega
    rw [e, Nat.pow_add, Nat.mul_comm S, Nat.mul_assoc, Nat.mul_div_cancel_left _ (Nat.pow_pos (by omega))]
    have hk : 8 * (k % 4) + 8 ≤ 32 := by omega
    generalize 8 * (k % 4) = s at hk
    rw [show (32 : Nat) = (s + 8) + (24 - s) from by omega, Nat.pow_add 2 (s + 8), Nat.mul_mod_mul_left]
  have hs : 8 * (k % 4) + 8 ≤ 32 := by omega
  rw [hy]
  generalize 8 * (k % 4) = s at hs
  have hlt : c * 2 ^ s < 2 ^ (s + 8) := by
    rw [Nat.pow_add, Nat.mul_comm]
    exact Nat.mul_lt_mul_of_pos_left hc (Nat.pow_pos (by omega))
  have h1 : S % 2 ^ (24 - s) < 2 ^ (24 - s) := Nat.mod_lt _ (Nat.pow_pos (by omega))
  calc 2 ^ (s + 8) * (S % 2 ^ (24 - s)) + c * 2 ^ s < 2 ^ (s + 8) * (S % 2 ^ (24 - s)) + 2 ^ (s + 8) := by omega
    _ = 2 ^ (s + 8) * (S % 2 ^ (24 - s) + 1) := by rw [Nat.mul_add, Nat.mul_one]
    _ ≤ 2 ^ (s + 8) * 2 ^ (24 - s) := Nat.mul_le_mul_left _ h1
    _ = 2 ^ 32 := by rw [← Nat.pow_add]; congr 1; omega
theorem digit_add_val {ys : List Nat} {S c k : Nat} (hl : k / 4 < ys.length) (hS : val (2 ^ 32) ys = S * 256 ^ (k + 1)) :
    val (2 ^ 32) (ys.set (k / 4) (ys.getD (k / 4) 0 + c * 2 ^ (8 * (k % 4)))) = (256 * S + c) * 256 ^ k := by
  have h := val_set (b := 2 ^ 32) ys (k / 4) (ys.getD (k / 4) 0 + c * 2 ^ (8 * (k % 4))) hl
  have e : (2 ^ 32) ^ (k / 4) * (c * 2 ^ (8 * (k % 4))) = c * 256 ^ k := by
    rw [show (256 : Nat) = 2 ^ 8 from rfl, ← Nat.pow_mul, ← Nat.pow_mul, Nat.mul_left_comm, ← Nat.pow_add]
    congr 2; omega
  rw [Nat.mul_add, e, hS] at h
  rw [Nat.add_mul, show 256 * S * 256 ^ k = S * 256 ^ (k + 1) from by rw [Nat.pow_succ, Nat.mul_comm 256 S, Nat.mul_assoc, Nat.mul_comm 256]]
  omega

/-! ### A row that is filled from its end -/
def fillR (f : Nat → Nat) (n q : Nat) : List Nat := (List.range n).map fun i => if n - q ≤ i then f i else 0
theorem fillR_length (f : Nat → Nat) (n q : Nat) : (fillR f n q).length = n := by simp [fillR]
theorem fillR_zero (f : Nat → Nat) (n : Nat) : fillR f n 0 = List.replicate n 0 := by
  apply List.ext_getElem
  · simp [fillR]
  · intro j h1 h2
    have : j < n := by simpa [fillR] using h1
    simp [fillR]; omega
theorem fillR_set (f : Nat → Nat) (n q x : Nat) (hq : q < n) (h : x = f (n - 1 - q)) : (fillR f n q).set (n - 1 - q) x = fillR f n (q + 1) := by
  subst h
  apply List.ext_getElem
  · simp [fillR]
  · intro j h1 h2
    simp only [fillR, List.getElem_set, List.getElem_map, List.getElem_range]
    by_cases e : n - 1 - q = j
    · subst e; rw [if_pos rfl, if_pos (by omega)]
    · rw [if_neg e]
      by_cases e2 : n - q ≤ j
      · rw [if_pos e2, if_pos (by omega)]
      · rw [if_neg e2, if_neg (by omega)]
theorem fillR_done (f : Nat → Nat) (n q : Nat) (h : ∀ i, i < n → ¬ n - q ≤ i → f i = 0) : fillR f n q = (List.range n).map f := by
  apply List.ext_getElem
  · simp [fillR]
  · intro j h1 h2
    have hj : j < n := by simpa [fillR] using h1
    simp only [fillR, List.getElem_map, List.getElem_range]
    by_cases e : n - q ≤ j
    · rw [if_pos e]
    · rw [if_neg e, h j hj e]
theorem blen_half {v : Nat} (h : 0 < v) : blen v = blen (v / 2) + 1 := by
  have h1 := blen_lt (v / 2)
  refine blen_eq (by rw [Nat.pow_succ]; omega) fun _ => ?_
  rw [Nat.add_sub_cancel]
  rcases Nat.eq_zero_or_pos (blen (v / 2)) with h0 | h0
  · rw [h0]; simp; omega
  · have := blen_ge h0
    rw [show blen (v / 2) = blen (v / 2) - 1 + 1 from by omega, Nat.pow_succ]
    omega
end Go.Proofs.Ytanelmmklnpohaa
