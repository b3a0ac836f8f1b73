/-
  Numbers as lists of digits: the value, the normal form, what the normal form is worth. No program in sight.
  Conditions: none; lemmas alone.
-/
import Derived.Lib.BitFns
namespace Go.Proofs.Ytanelmmklnpohaa

def Dig (b : Nat) (xs : List Nat) : Prop := ∀ x ∈ xs, x < b
def val (b : Nat) : List Nat → Nat
  | [] => 0
  | x :: r => x + b * val b r
/-- How many digits are left when the noughts at the end are cut. -/
def tlen (xs : List Nat) : Nat → Nat
  | 0 => 0
  | n + 1 => if xs.getD n 0 = 0 then tlen xs n else n + 1
def Canon (b : Nat) (xs : List Nat) : Prop := Dig b xs ∧ (0 < xs.length → xs.getD (xs.length - 1) 0 ≠ 0)

theorem Dig.nil {b : Nat} : Dig b [] := fun x h => by cases h
theorem Dig.cons {b x : Nat} {r : List Nat} : Dig b (x :: r) ↔ x < b ∧ Dig b r := by simp [Dig]
theorem Dig.app {b : Nat} {xs ys : List Nat} : Dig b (xs ++ ys) ↔ Dig b xs ∧ Dig b ys := by
  simp only [Dig, List.mem_append]
  exact ⟨fun h => ⟨fun x hx => h x (.inl hx), fun x hx => h x (.inr hx)⟩, fun h x hx => hx.elim (h.1 x) (h.2 x)⟩
theorem Dig.take {b : Nat} {xs : List Nat} (h : Dig b xs) (n : Nat) : Dig b (xs.take n) := fun x hx => h x (List.mem_of_mem_take hx)
theorem Dig.drop {b : Nat} {xs : List Nat} (h : Dig b xs) (n : Nat) : Dig b (xs.drop n) := fun x hx => h x (List.mem_of_mem_drop hx)
theorem Dig.get {b : Nat} {xs : List Nat} (h : Dig b xs) (hb : 0 < b) (i : Nat) : xs.getD i 0 < b := by
  rcases Nat.lt_or_ge i xs.length with hi | hi
  · rw [List.getD_eq_getElem?_getD, List.getElem?_eq_getElem hi]; exact h _ (List.getElem_mem hi)
  · rw [List.getD_eq_getElem?_getD, List.getElem?_eq_none hi]; exact hb
theorem Dig.set {b : Nat} {xs : List Nat} (h : Dig b xs) (i x : Nat) (hx : x < b) : Dig b (xs.set i x) := fun y hy => by
  rcases List.mem_or_eq_of_mem_set hy with h1 | h1
  · exact h y h1
  · omega
theorem Dig.rep {b n : Nat} (hb : 0 < b) : Dig b (List.replicate n 0) := fun x hx => by
  rw [List.mem_replicate] at hx; omega
theorem val_app (b : Nat) : ∀ (xs ys : List Nat), val b (xs ++ ys) = val b xs + b ^ xs.length * val b ys
  | [], ys => by simp [val]
  | x :: r, ys => by
    simp only [List.cons_append, val, List.length_cons]
    rw [val_app b r ys, Nat.mul_add, Nat.pow_succ, Nat.add_assoc]
    congr 2
    rw [← Nat.mul_assoc, Nat.mul_comm b]
theorem val_rep (b : Nat) : ∀ n, val b (List.replicate n 0) = 0
  | 0 => rfl
  | n + 1 => by simp [List.replicate_succ, val, val_rep b n]
theorem val_lt {b : Nat} : ∀ {xs : List Nat}, Dig b xs → val b xs < b ^ xs.length
  | [], _ => by simp [val]
  | x :: r, h => by
    obtain ⟨h1, h2⟩ := Dig.cons.1 h
    have := val_lt h2
    simp only [val, List.length_cons, Nat.pow_succ]
    calc x + b * val b r < b + b * val b r := by omega
      _ = b * (val b r + 1) := by rw [Nat.mul_add, Nat.mul_one, Nat.add_comm]
      _ ≤ b * b ^ r.length := Nat.mul_le_mul_left _ this
      _ = b ^ r.length * b := Nat.mul_comm _ _
theorem take_snoc (xs : List Nat) (k : Nat) (h : k < xs.length) : xs.take (k + 1) = xs.take k ++ [xs.getD k 0] := by
  rw [List.take_succ_eq_append_getElem h, List.getD_eq_getElem?_getD, List.getElem?_eq_getElem h]; rfl
theorem val_take_succ (b : Nat) (xs : List Nat) (k : Nat) (h : k < xs.length) : val b (xs.take (k + 1)) = val b (xs.take k) + b ^ k * xs.getD k 0 := by
  rw [take_snoc xs k h, val_app]
  simp [val, Nat.min_eq_left (Nat.le_of_lt h)]
theorem val_split (b : Nat) (xs : List Nat) (k : Nat) : val b xs = val b (xs.take k) + b ^ (min k xs.length) * val b (xs.drop k) := by
  conv => lhs; rw [← List.take_append_drop k xs]
  rw [val_app, List.length_take]
theorem tlen_le (xs : List Nat) : ∀ n, tlen xs n ≤ n
  | 0 => Nat.le_refl _
  | n + 1 => by
    unfold tlen
    split
    · exact Nat.le_trans (tlen_le xs n) (Nat.le_succ n)
    · exact Nat.le_refl _
theorem val_tlen (b : Nat) (xs : List Nat) : ∀ n, n ≤ xs.length → val b (xs.take (tlen xs n)) = val b (xs.take n)
  | 0, _ => rfl
  | n + 1, h => by
    unfold tlen
    split
    · rename_i h0
      rw [val_tlen b xs n (by omega), val_take_succ b xs n (by omega), h0, Nat.mul_zero, Nat.add_zero]
    · rfl
theorem tlen_last (xs : List Nat) : ∀ n, 0 < tlen xs n → xs.getD (tlen xs n - 1) 0 ≠ 0
  | 0, h => by simp [tlen] at h
  | n + 1, h => by
    unfold tlen at h ⊢
    split
    · rename_i h0
      rw [if_pos h0] at h
      exact tlen_last xs n h
    · rename_i h0
      simpa using h0
theorem canon_tlen {b : Nat} {xs : List Nat} (h : Dig b xs) : Canon b (xs.take (tlen xs xs.length)) := by
  refine ⟨h.take _, fun hp => ?_⟩
  have hl : (xs.take (tlen xs xs.length)).length = tlen xs xs.length := by
    rw [List.length_take]; exact Nat.min_eq_left (tlen_le _ _)
  rw [hl] at hp ⊢
  have := tlen_last xs xs.length hp
  rw [List.getD_eq_getElem?_getD, List.getElem?_take, if_pos (by omega), ← List.getD_eq_getElem?_getD]
  exact this
theorem val_trim (b : Nat) (xs : List Nat) : val b (xs.take (tlen xs xs.length)) = val b xs := by
  rw [val_tlen b xs xs.length (Nat.le_refl _), List.take_length]
theorem tlen_canon {b : Nat} {xs : List Nat} (h : Canon b xs) : tlen xs xs.length = xs.length := by
  cases hn : xs.length with
  | zero => rfl
  | succ n =>
    unfold tlen
    have := h.2 (by omega)
    rw [hn, Nat.add_sub_cancel] at this
    rw [if_neg this]
/-- The normal form's length tells the size. -/
theorem canon_ge {b : Nat} {xs : List Nat} (h : Canon b xs) (hp : 0 < xs.length) : b ^ (xs.length - 1) ≤ val b xs := by
  have h1 := h.2 hp
  have h2 := val_take_succ b xs (xs.length - 1) (by omega)
  rw [show xs.length - 1 + 1 = xs.length from by omega, List.take_length] at h2
  rw [h2]
  exact Nat.le_trans (Nat.le_mul_of_pos_right _ (by omega)) (Nat.le_add_left _ _)
theorem canon_len_lt {b : Nat} (hb : 1 < b) {xs ys : List Nat} (hx : Dig b xs) (hy : Canon b ys) (h : xs.length < ys.length) : val b xs < val b ys :=
  Nat.lt_of_lt_of_le (val_lt hx) (Nat.le_trans (Nat.pow_le_pow_right (by omega) (by omega)) (canon_ge hy (by omega)))
theorem canon_zero {b : Nat} (hb : 1 < b) {xs : List Nat} (h : Canon b xs) : val b xs = 0 ↔ xs = [] := by
  constructor
  · intro h0
    rcases Nat.eq_zero_or_pos xs.length with hl | hl
    · exact List.eq_nil_of_length_eq_zero hl
    · have := canon_ge h hl
      have : 0 < b ^ (xs.length - 1) := Nat.pow_pos (by omega)
      omega
  · rintro rfl; rfl
theorem val_inj {b : Nat} (hb : 0 < b) : ∀ {xs ys : List Nat}, Dig b xs → Dig b ys → xs.length = ys.length → val b xs = val b ys → xs = ys
  | [], [], _, _, _, _ => rfl
  | [], _ :: _, _, _, h, _ => by simp at h
  | _ :: _, [], _, _, h, _ => by simp at h
  | x :: r, y :: s, hx, hy, hl, hv => by
    obtain ⟨x1, x2⟩ := Dig.cons.1 hx
    obtain ⟨y1, y2⟩ := Dig.cons.1 hy
    simp only [val] at hv
    have e1 : x = y := by
      have : (x + b * val b r) % b = (y + b * val b s) % b := by rw [hv]
      rwa [Nat.add_mul_mod_self_left, Nat.add_mul_mod_self_left, Nat.mod_eq_of_lt x1, Nat.mod_eq_of_lt y1] at this
    subst e1
    have e2 : val b r = val b s := Nat.eq_of_mul_eq_mul_left hb (Nat.add_left_cancel hv)
    rw [val_inj hb x2 y2 (by simpa using hl) e2]
theorem canon_inj {b : Nat} (hb : 1 < b) {xs ys : List Nat} (hx : Canon b xs) (hy : Canon b ys) (h : val b xs = val b ys) : xs = ys := by
  have hl : xs.length = ys.length := by
    rcases Nat.lt_trichotomy xs.length ys.length with hl | hl | hl
    · have := canon_len_lt hb hx.1 hy hl; omega
    · exact hl
    · have := canon_len_lt hb hy.1 hx hl; omega
  exact val_inj (by omega) hx.1 hy.1 hl h
/-- A digit by division. -/
theorem val_div {b : Nat} (hb : 0 < b) {xs : List Nat} (h : Dig b xs) (k : Nat) : val b xs / b ^ k = val b (xs.drop k) := by
  rcases Nat.lt_or_ge k xs.length with hk | hk
  · rw [val_split b xs k, Nat.min_eq_left (Nat.le_of_lt hk), Nat.add_mul_div_left _ _ (Nat.pow_pos hb)]
    have := val_lt (h.take k)
    rw [List.length_take, Nat.min_eq_left (Nat.le_of_lt hk)] at this
    rw [Nat.div_eq_of_lt this, Nat.zero_add]
  · rw [List.drop_of_length_le hk]
    exact Nat.div_eq_of_lt (Nat.lt_of_lt_of_le (val_lt h) (Nat.pow_le_pow_right hb hk))
theorem val_digit {b : Nat} (hb : 0 < b) {xs : List Nat} (h : Dig b xs) (k : Nat) : val b xs / b ^ k % b = xs.getD k 0 := by
  rw [val_div hb h]
  rcases Nat.lt_or_ge k xs.length with hk | hk
  · rw [List.drop_eq_getElem_cons hk]
    simp only [val]
    rw [Nat.add_mul_mod_self_left, Nat.mod_eq_of_lt (h _ (List.getElem_mem hk)), List.getD_eq_getElem?_getD, List.getElem?_eq_getElem hk]
    rfl
  · rw [List.drop_of_length_le hk, List.getD_eq_getElem?_getD, List.getElem?_eq_none hk]
    simp [val]
/-- A digit set where a nought was. -/
theorem val_set {b : Nat} : ∀ (xs : List Nat) (k x : Nat), k < xs.length → val b (xs.set k x) + b ^ k * xs.getD k 0 = val b xs + b ^ k * x
  | [], k, x, h => by simp at h
  | y :: r, 0, x, _ => by simp [val]; omega
  | y :: r, k + 1, x, h => by
    have ih := val_set (b := b) r k x (by simpa using h)
    simp only [List.set_cons_succ, val, List.getD_cons_succ, Nat.pow_succ]
    have e1 : b ^ k * b * r.getD k 0 = b * (b ^ k * r.getD k 0) := by rw [Nat.mul_comm (b ^ k) b, Nat.mul_assoc]
    have e2 : b ^ k * b * x = b * (b ^ k * x) := by rw [Nat.mul_comm (b ^ k) b, Nat.mul_assoc]
    rw [e1, e2, Nat.add_assoc, ← Nat.mul_add, ih, Nat.mul_add, ← Nat.add_assoc]
theorem getD_set_eq (xs : List Nat) (k x j : Nat) (h : k < xs.length) : (xs.set k x).getD j 0 = if j = k then x else xs.getD j 0 := by
  rw [List.getD_eq_getElem?_getD, List.getElem?_set, List.getD_eq_getElem?_getD]
  by_cases e : j = k
  · subst e; simp [h]
  · rw [if_neg (fun h' => e h'.symm), if_neg e]
theorem getD_rep (n j : Nat) : (List.replicate n 0).getD j 0 = 0 := by
  rw [List.getD_eq_getElem?_getD, List.getElem?_replicate]; split <;> rfl


/-! ### How many bits -/
def blen (v : Nat) : Nat := if v = 0 then 0 else Nat.log2 v + 1
theorem blen_lt (v : Nat) : v < 2 ^ blen v := by
  unfold blen
  split
  · omega
  · exact Nat.lt_log2_self
theorem blen_ge {v : Nat} (h : 0 < blen v) : 2 ^ (blen v - 1) ≤ v := by
  unfold blen at h ⊢
  split
  · rename_i h0; simp [h0] at h
  · rename_i h0; rw [Nat.add_sub_cancel]; exact Nat.log2_self_le h0
theorem blen_le {v n : Nat} : blen v ≤ n ↔ v < 2 ^ n := by
  constructor
  · intro h; exact Nat.lt_of_lt_of_le (blen_lt v) (Nat.pow_le_pow_right (by omega) h)
  · intro h
    rcases Nat.lt_or_ge n (blen v) with h1 | h1
    · have := blen_ge (v := v) (by omega)
      have h2 : 2 ^ n ≤ 2 ^ (blen v - 1) := Nat.pow_le_pow_right (by omega) (by omega)
      omega
    · exact h1
theorem blen_eq {v n : Nat} (h1 : v < 2 ^ n) (h2 : 0 < n → 2 ^ (n - 1) ≤ v) : blen v = n := by
  have a := blen_le.2 h1
  rcases Nat.lt_or_ge (blen v) n with h | h
  · have := h2 (by omega)
    have : v < 2 ^ (n - 1) := Nat.lt_of_lt_of_le (blen_lt v) (Nat.pow_le_pow_right (by omega) (by omega))
    omega
  · omega
theorem blen_zero : blen 0 = 0 := rfl
theorem blen_pos {v : Nat} (h : 0 < v) : 0 < blen v := by unfold blen; rw [if_neg (by omega)]; omega
theorem blen_top {r x m : Nat} (hr : r < 2 ^ m) (hx : 0 < x) : blen (r + 2 ^ m * x) = m + blen x := by
  have hb := blen_pos hx
  apply blen_eq
  · rw [Nat.pow_add]
    have := blen_lt x
    calc r + 2 ^ m * x < 2 ^ m + 2 ^ m * x := by omega
      _ = 2 ^ m * (x + 1) := by rw [Nat.mul_add, Nat.mul_one, Nat.add_comm]
      _ ≤ 2 ^ m * 2 ^ blen x := Nat.mul_le_mul_left _ this
  · intro _
    rw [show m + blen x - 1 = m + (blen x - 1) from by omega, Nat.pow_add]
    exact Nat.le_trans (Nat.mul_le_mul_left _ (blen_ge hb)) (Nat.le_add_left _ _)
theorem bitLenAux_spec : ∀ (f x : Nat), x < 2 ^ f → x < 2 ^ Lib.bitLenAux f x ∧ (0 < Lib.bitLenAux f x → 2 ^ (Lib.bitLenAux f x - 1) ≤ x)
  | 0, x, h => by simp [Lib.bitLenAux] at h ⊢; omega
  | f + 1, x, h => by
    unfold Lib.bitLenAux
    by_cases h0 : x = 0
    · subst h0; simp
    · rw [if_neg h0]
      obtain ⟨h1, h2⟩ := bitLenAux_spec f (x / 2) (by rw [Nat.pow_succ] at h; omega)
      refine ⟨by rw [Nat.add_comm, Nat.pow_succ]; omega, fun _ => ?_⟩
      rw [Nat.add_sub_cancel_left]
      rcases Nat.eq_zero_or_pos (Lib.bitLenAux f (x / 2)) with hz | hz
      · rw [hz]; simp; omega
      · have := h2 hz
        rw [show Lib.bitLenAux f (x / 2) = (Lib.bitLenAux f (x / 2) - 1) + 1 from by omega, Nat.pow_succ]
        omega
theorem bitLen_blen {x : Nat} (h : x < 2 ^ 64) : Lib.bitLen x = blen x := by
  obtain ⟨h1, h2⟩ := bitLenAux_spec 64 x h
  exact (blen_eq h1 h2).symm
theorem blen_val {k : Nat} {xs : List Nat} (h : Canon (2 ^ k) xs) (hp : 0 < xs.length) : blen (val (2 ^ k) xs) = k * (xs.length - 1) + blen (xs.getD (xs.length - 1) 0) := by
  have h1 := h.2 hp
  have h2 := val_take_succ (2 ^ k) xs (xs.length - 1) (by omega)
  rw [show xs.length - 1 + 1 = xs.length from by omega, List.take_length] at h2
  have h3 := val_lt (h.1.take (xs.length - 1))
  rw [List.length_take, Nat.min_eq_left (by omega)] at h3
  rw [h2, ← Nat.pow_mul] at *
  exact blen_top h3 (by omega)

/-! ### Bytes, the highest first -/
def beval (l : List Nat) : Nat := l.foldl (fun v x => 256 * v + x) 0
def bebytes (n v : Nat) : List Nat := (List.range n).map fun i => v / 256 ^ (n - 1 - i) % 256
theorem bebytes_length (n v : Nat) : (bebytes n v).length = n := by simp [bebytes]
theorem bebytes_get (n v i : Nat) (h : i < n) : (bebytes n v).getD i 0 = v / 256 ^ (n - 1 - i) % 256 := by simp [bebytes, List.getD_eq_getElem?_getD, h]
theorem beval_app (l : List Nat) (x : Nat) : beval (l ++ [x]) = 256 * beval l + x := by simp [beval]
theorem beval_eq_val (l : List Nat) : beval l = val 256 l.reverse := by
  have key : ∀ (l : List Nat) (a : Nat), l.foldl (fun v x => 256 * v + x) a = val 256 (l.reverse ++ [a]) := by
    intro l
    induction l with
    | nil => intro a; simp [val]
    | cons x r ih =>
      intro a
      rw [List.foldl_cons, ih, List.reverse_cons, List.append_assoc, val_app, val_app]
      simp [val]
      rw [Nat.add_comm (256 * a) x]
  unfold beval
  rw [key l 0, val_app]
  simp [val]


/-! ### A row that is filled place by place -/
def fillTo (f : Nat → Nat) (n i : Nat) : List Nat := (List.range n).map fun j => if j < i then f j else 0
theorem fillTo_length (f : Nat → Nat) (n i : Nat) : (fillTo f n i).length = n := by simp [fillTo]
theorem fillTo_get (f : Nat → Nat) (n i j : Nat) (h : j < n) : (fillTo f n i).getD j 0 = if j < i then f j else 0 := by simp [fillTo, List.getD_eq_getElem?_getD, h]
theorem fillTo_zero (f : Nat → Nat) (n : Nat) : fillTo f n 0 = List.replicate n 0 := by
  apply List.ext_getElem
  · simp [fillTo]
  · intro j h1 h2; simp [fillTo]
theorem fillTo_set (f : Nat → Nat) (n i x : Nat) (h : x = f i) : (fillTo f n i).set i x = fillTo f n (i + 1) := by
  subst h
  apply List.ext_getElem
  · simp [fillTo]
  · intro j h1 h2
    simp only [fillTo, List.getElem_set, List.getElem_map, List.getElem_range]
    by_cases e : i = j
    · subst e; simp
    · rw [if_neg e]
      by_cases e2 : j < i
      · rw [if_pos e2, if_pos (by omega)]
      · rw [if_neg e2, if_neg (by omega)]
theorem fillTo_skip (f : Nat → Nat) (n i : Nat) (h : f i = 0) : fillTo f n i = fillTo f n (i + 1) := by
  apply List.ext_getElem
  · simp [fillTo]
  · intro j h1 h2
    simp only [fillTo, List.getElem_map, List.getElem_range]
    by_cases e : j = i
    · subst e; simp [h]
    · by_cases e2 : j < i
      · rw [if_pos e2, if_pos (by omega)]
      · rw [if_neg e2, if_neg (by omega)]
theorem fillTo_full (f : Nat → Nat) (n : Nat) : fillTo f n n = (List.range n).map f := by
  apply List.ext_getElem
  · simp [fillTo]
  · intro j h1 h2
    have : j < n := by simpa [fillTo] using h1
    simp [fillTo, this]
/-- A byte out of a number's limbs. -/
theorem byte_of_limb {xs : List Nat} (h : Dig (2 ^ 64) xs) (k : Nat) : xs.getD (k / 8) 0 / 2 ^ (k % 8 * 8) % 256 = val (2 ^ 64) xs / 256 ^ k % 256 := by
  rw [← val_digit (by omega) h (k / 8), show (256 : Nat) = 2 ^ 8 from rfl, ← Nat.pow_mul, ← Nat.pow_mul]
  have e : 8 * k = 64 * (k / 8) + k % 8 * 8 := by omega
  rw [e, Nat.pow_add, ← Nat.div_div_eq_div_mul]
  generalize val (2 ^ 64) xs / 2 ^ (64 * (k / 8)) = y
  have hk : k % 8 * 8 + 8 ≤ 64 := by omega
  generalize k % 8 * 8 = s at hk
  rw [show (64 : Nat) = s + (64 - s) from by omega, Nat.pow_add, Nat.mod_mul_right_div_self, Nat.mod_mod_of_dvd]
  exact Nat.pow_dvd_pow 2 (by omega)
theorem byte_beyond {xs : List Nat} (h : Dig (2 ^ 64) xs) (k : Nat) (hk : xs.length ≤ k / 8) : val (2 ^ 64) xs / 256 ^ k % 256 = 0 := by
  have := val_lt h
  rw [Nat.div_eq_of_lt, Nat.zero_mod]
  refine Nat.lt_of_lt_of_le this ?_
  rw [show (256 : Nat) = 2 ^ 8 from rfl, ← Nat.pow_mul, ← Nat.pow_mul]
  exact Nat.pow_le_pow_right (by omega) (by omega)


/-! ### Limbs out of bytes -/
theorem beval_lt {l : List Nat} (h : Dig 256 l) : beval l < 256 ^ l.length := by
  rw [beval_eq_val]
  have := val_lt (b := 256) (xs := l.reverse) (fun x hx => h x (List.mem_reverse.1 hx))
  rwa [List.length_reverse] at this
theorem beval_take_succ (l : List Nat) (i : Nat) (h : i < l.length) : beval (l.take (i + 1)) = 256 * beval (l.take i) + l.getD i 0 := by
  rw [take_snoc l i h, beval_app]
/-- One byte more, 'k' bytes being still to come: what is or-ed into limb k / 8. -/
theorem limb_or {ys : List Nat} (hd : Dig (2 ^ 64) ys) {S c k : Nat} (hc : c < 256) (hS : val (2 ^ 64) ys = S * 256 ^ (k + 1)) :
    ys.getD (k / 8) 0 ||| c * 2 ^ (k % 8 * 8) = ys.getD (k / 8) 0 + c * 2 ^ (k % 8 * 8) ∧ ys.getD (k / 8) 0 + c * 2 ^ (k % 8 * 8) < 2 ^ 64 := by
  have hy : ys.getD (k / 8) 0 = 2 ^ (k % 8 * 8 + 8) * (S % 2 ^ (56 - k % 8 * 8)) := by
    rw [← val_digit (by omega) hd (k / 8), hS, show (256 : Nat) = 2 ^ 8 from rfl, ← Nat.pow_mul, ← Nat.pow_mul]
    have e : 8 * (k + 1) = 64 * (k / 8) + (k % 8 * 8 + 8) := by omega
    rw [e, Nat.pow_add, Nat.mul_comm S, Nat.mul_assoc, Nat.mul_div_cancel_left _ (Nat.pow_pos (by omega))]
    have hk : k % 8 * 8 + 8 ≤ 64 := by omega
    generalize k % 8 * 8 = s at hk
    rw [show (64 : Nat) = (s + 8) + (56 - s) from by omega, Nat.pow_add 2 (s + 8), Nat.mul_mod_mul_left]
  have hs : k % 8 * 8 + 8 ≤ 64 := by omega
  rw [hy]
  generalize k % 8 * 8 = s at hs
  have hlt : c * 2 ^ s < 2 ^ (s + 8) := by
    rw [Nat.pow_add, Nat.mul_comm]
    exact Nat.mul_lt_mul_of_pos_left hc (Nat.pow_pos (by omega))
  refine ⟨(Nat.two_pow_add_eq_or_of_lt hlt _).symm, ?_⟩
  have h1 : S % 2 ^ (56 - s) < 2 ^ (56 - s) := Nat.mod_lt _ (Nat.pow_pos (by omega))
  calc 2 ^ (s + 8) * (S % 2 ^ (56 - s)) + c * 2 ^ s < 2 ^ (s + 8) * (S % 2 ^ (56 - s)) + 2 ^ (s + 8) := by omega
    _ = 2 ^ (s + 8) * (S % 2 ^ (56 - s) + 1) := by rw [Nat.mul_add, Nat.mul_one]
    _ ≤ 2 ^ (s + 8) * 2 ^ (56 - s) := Nat.mul_le_mul_left _ h1
    _ = 2 ^ 64 := by rw [← Nat.pow_add]; congr 1; omega
theorem limb_or_val {ys : List Nat} {S c k : Nat} (hl : k / 8 < ys.length) (hS : val (2 ^ 64) ys = S * 256 ^ (k + 1)) :
    val (2 ^ 64) (ys.set (k / 8) (ys.getD (k / 8) 0 + c * 2 ^ (k % 8 * 8))) = (256 * S + c) * 256 ^ k := by
  have h := val_set (b := 2 ^ 64) ys (k / 8) (ys.getD (k / 8) 0 + c * 2 ^ (k % 8 * 8)) hl
  have e : (2 ^ 64) ^ (k / 8) * (c * 2 ^ (k % 8 * 8)) = c * 256 ^ k := by
    rw [show (256 : Nat) = 2 ^ 8 from rfl, ← Nat.pow_mul, ← Nat.pow_mul, Nat.mul_left_comm, ← Nat.pow_add]
    congr 2; omega
  rw [Nat.mul_add, e, hS] at h
  rw [Nat.add_mul, show 256 * S * 256 ^ k = S * 256 ^ (k + 1) from by rw [Nat.pow_succ, Nat.mul_comm 256 S, Nat.mul_assoc, Nat.mul_comm 256]]
  omega
end Go.Proofs.Ytanelmmklnpohaa
