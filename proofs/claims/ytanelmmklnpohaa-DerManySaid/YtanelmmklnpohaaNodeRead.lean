/-
  DER in plain Lean: how nodes are read, and that what is written is read and what is read is written as it was.
  Conditions: none; definitions and lemmas alone.
-/
import Derived.Test.YtanelmmklnpohaaNode
namespace Go.Proofs.Ytanelmmklnpohaa

/-! ### Bytes and numbers -/
theorem val_digits (b v : Nat) (hb : 0 < b) : ∀ n, val b ((List.range n).map fun i => v / b ^ i % b) = v % b ^ n
  | 0 => by simp [val, Nat.mod_one]
  | n + 1 => by
    rw [List.range_succ, List.map_append, val_app, val_digits b v hb n]
    simp only [List.map_cons, List.map_nil, List.length_map, List.length_range, val, Nat.mul_zero, Nat.add_zero]
    rw [Nat.pow_succ, Nat.mod_mul]
theorem bebytes_rev (n v : Nat) : (bebytes n v).reverse = (List.range n).map fun i => v / 256 ^ i % 256 := by
  apply List.ext_getElem
  · simp [bebytes]
  · intro j h1 h2
    have hj : j < n := by simpa [bebytes] using h1
    simp only [bebytes, List.getElem_reverse, List.getElem_map, List.getElem_range, List.length_map, List.length_range]
    rw [show n - 1 - (n - 1 - j) = j from by omega]
theorem beval_bebytes (n v : Nat) : beval (bebytes n v) = v % 256 ^ n := by
  rw [beval_eq_val, bebytes_rev, val_digits _ _ (by omega)]
theorem bebytes_dig (n v : Nat) : Dig 256 (bebytes n v) := by
  intro x hx
  simp only [bebytes, List.mem_map] at hx
  obtain ⟨i, _, rfl⟩ := hx
  exact Nat.mod_lt _ (by omega)
theorem beval_inj {l m : List Nat} (hl : Dig 256 l) (hm : Dig 256 m) (h : l.length = m.length) (hv : beval l = beval m) : l = m := by
  rw [beval_eq_val, beval_eq_val] at hv
  have := val_inj (b := 256) (by omega) (xs := l.reverse) (ys := m.reverse) (fun x hx => hl x (List.mem_reverse.1 hx)) (fun x hx => hm x (List.mem_reverse.1 hx)) (by simpa using h) hv
  simpa using congrArg List.reverse this
theorem bebytes_beval {l : List Nat} (h : Dig 256 l) : bebytes l.length (beval l) = l :=
  beval_inj (bebytes_dig _ _) h (bebytes_length _ _) (by rw [beval_bebytes, Nat.mod_eq_of_lt (beval_lt h)])
theorem beval_cons (x : Nat) (l : List Nat) : beval (x :: l) = 256 ^ l.length * x + beval l := by
  rw [beval_eq_val, beval_eq_val, List.reverse_cons, val_app]
  simp [val]
  omega

/-! ### Heads -/
def headB (b : List Nat) : Option (Nat × List Nat × List Nat) :=
  if b.length < 2 then none
  else if b.getD 1 0 < 128 then
    (if (b.drop 2).length < b.getD 1 0 then none else some (b.getD 0 0, (b.drop 2).take (b.getD 1 0), (b.drop 2).drop (b.getD 1 0)))
  else if b.getD 1 0 - 128 < 1 ∨ 3 < b.getD 1 0 - 128 ∨ (b.drop 2).length < b.getD 1 0 - 128 ∨ (b.drop 2).getD 0 0 = 0 then none
  else if beval ((b.drop 2).take (b.getD 1 0 - 128)) < 128 then none
  else if ((b.drop 2).drop (b.getD 1 0 - 128)).length < beval ((b.drop 2).take (b.getD 1 0 - 128)) then none
  else some (b.getD 0 0, ((b.drop 2).drop (b.getD 1 0 - 128)).take (beval ((b.drop 2).take (b.getD 1 0 - 128))), ((b.drop 2).drop (b.getD 1 0 - 128)).drop (beval ((b.drop 2).take (b.getD 1 0 - 128))))

theorem lenBytes_ge {n : Nat} (h : 128 ≤ n) : lenBytes n = (128 + (blen n + 7) / 8) :: bebytes ((blen n + 7) / 8) n := by
  unfold lenBytes; rw [if_neg (by omega)]
theorem bytes_of_len {n : Nat} (h : 0 < n) : 256 ^ ((blen n + 7) / 8 - 1) ≤ n ∧ n < 256 ^ ((blen n + 7) / 8) ∧ 0 < (blen n + 7) / 8 := by
  have hp := blen_pos h
  refine ⟨?_, ?_, by omega⟩
  · refine Nat.le_trans ?_ (blen_ge hp)
    rw [show (256 : Nat) = 2 ^ 8 from rfl, ← Nat.pow_mul]
    exact Nat.pow_le_pow_right (by omega) (by omega)
  · refine Nat.lt_of_lt_of_le (blen_lt n) ?_
    rw [show (256 : Nat) = 2 ^ 8 from rfl, ← Nat.pow_mul]
    exact Nat.pow_le_pow_right (by omega) (by omega)
theorem bytes_len_eq {n k : Nat} (h1 : 256 ^ (k - 1) ≤ n) (h2 : n < 256 ^ k) (hk : 0 < k) : (blen n + 7) / 8 = k := by
  rw [show (256 : Nat) = 2 ^ 8 from rfl, ← Nat.pow_mul] at h1 h2
  have a := blen_le.2 h2
  have b : 8 * (k - 1) < blen n := by
    rcases Nat.lt_or_ge (8 * (k - 1)) (blen n) with h | h
    · exact h
    · have := blen_le.1 h; omega
  omega
theorem head_headed (t : Nat) (c more : List Nat) (ht : t < 256) (hc : c.length < 16777216) : headB (headed t c ++ more) = some (t, c, more) := by
  have e0 : ((t : Int) % 256).toNat = t := by omega
  unfold headed
  rw [e0]
  by_cases h : c.length < 128
  · have e : lenBytes c.length = [c.length] := by unfold lenBytes; rw [if_pos h]
    rw [e]
    unfold headB
    simp only [List.cons_append, List.nil_append, List.length_cons, List.length_append, List.getD_cons_zero, List.getD_cons_succ, List.drop_succ_cons, List.drop_zero]
    rw [if_neg (by omega), if_pos h, if_neg (by omega), List.take_left, List.drop_left]
  · rw [lenBytes_ge (by omega)]
    obtain ⟨b1, b2, b3⟩ := bytes_of_len (n := c.length) (by omega)
    have hk3 : (blen c.length + 7) / 8 ≤ 3 := by
      have : blen c.length ≤ 24 := blen_le.2 hc
      omega
    generalize (blen c.length + 7) / 8 = k at b1 b2 b3 hk3
    unfold headB
    simp only [List.cons_append, List.length_cons, List.length_append, List.getD_cons_zero, List.getD_cons_succ, List.drop_succ_cons, List.drop_zero, bebytes_length, List.append_assoc, Nat.add_sub_cancel_left]
    have etake : (bebytes k c.length ++ (c ++ more)).take k = bebytes k c.length := by
      have := List.take_left (l₁ := bebytes k c.length) (l₂ := c ++ more)
      rwa [bebytes_length] at this
    have edrop : (bebytes k c.length ++ (c ++ more)).drop k = c ++ more := by
      have := List.drop_left (l₁ := bebytes k c.length) (l₂ := c ++ more)
      rwa [bebytes_length] at this
    have ev : beval (bebytes k c.length) = c.length := by rw [beval_bebytes, Nat.mod_eq_of_lt b2]
    have e1 : (bebytes k c.length ++ (c ++ more)).getD 0 0 ≠ 0 := by
      rw [List.getD_eq_getElem?_getD, List.getElem?_append_left (by rw [bebytes_length]; exact b3), ← List.getD_eq_getElem?_getD, bebytes_get _ _ _ b3, Nat.sub_zero]
      have h1 : 0 < c.length / 256 ^ (k - 1) := Nat.div_pos b1 (Nat.pow_pos (by omega))
      have h2 : c.length / 256 ^ (k - 1) < 256 := by
        rw [Nat.div_lt_iff_lt_mul (Nat.pow_pos (by omega)), ← Nat.pow_succ']
        rwa [show (k - 1).succ = k from by omega]
      rw [Nat.mod_eq_of_lt h2]
      omega
    rw [etake, edrop, ev, if_neg (by omega), if_neg (by omega), if_neg (by simp only [not_or]; exact ⟨by omega, by omega, by omega, e1⟩), if_neg (by omega), List.length_append, if_neg (by omega), List.take_left, List.drop_left]

theorem head_spec {b held rest : List Nat} {t : Nat} (hd : Dig 256 b) (h : headB b = some (t, held, rest)) :
    b = headed t held ++ rest ∧ t < 256 ∧ held.length + rest.length + 2 ≤ b.length ∧ held.length < 16777216 := by
  unfold headB at h
  by_cases h1 : b.length < 2
  · rw [if_pos h1] at h; cases h
  rw [if_neg h1] at h
  obtain ⟨x, y, r, rfl⟩ : ∃ x y r, b = x :: y :: r := by
    match b, h1 with
    | [], h1 => simp at h1
    | [x], h1 => simp at h1
    | x :: y :: r, _ => exact ⟨x, y, r, rfl⟩
  obtain ⟨hx, hd2⟩ := Dig.cons.1 hd
  obtain ⟨hy, hr⟩ := Dig.cons.1 hd2
  simp only [List.getD_cons_zero, List.getD_cons_succ, List.drop_succ_cons, List.drop_zero] at h
  have e0 : ∀ t : Nat, t < 256 → ((t : Int) % 256).toNat = t := fun t ht => by omega
  by_cases h2 : y < 128
  · rw [if_pos h2] at h
    by_cases h3 : r.length < y
    · rw [if_pos h3] at h; cases h
    rw [if_neg h3] at h
    simp only [Option.some.injEq, Prod.mk.injEq] at h
    obtain ⟨rfl, rfl, rfl⟩ := h
    have hl : (r.take y).length = y := by rw [List.length_take]; omega
    refine ⟨?_, hx, by simp only [List.length_cons, List.length_drop, hl]; omega, by omega⟩
    unfold headed lenBytes
    rw [hl, if_pos h2, e0 x hx]
    simp
  · rw [if_neg h2] at h
    by_cases h3 : y - 128 < 1 ∨ 3 < y - 128 ∨ r.length < y - 128 ∨ r.getD 0 0 = 0
    · rw [if_pos h3] at h; cases h
    rw [if_neg h3] at h
    simp only [not_or] at h3
    obtain ⟨h31, h32, h33, h34⟩ := h3
    have hl : (r.take (y - 128)).length = y - 128 := by rw [List.length_take]; omega
    have hdt := hr.take (y - 128)
    have hbv := bebytes_beval hdt
    have hlt := beval_lt hdt
    rw [hl] at hbv hlt
    have hge : 256 ^ (y - 128 - 1) ≤ beval (r.take (y - 128)) := by
      clear hbv hlt hdt hl
      rcases r with _ | ⟨z, s⟩
      · exact absurd rfl h34
      obtain ⟨m, hm⟩ : ∃ m, y - 128 = m + 1 := ⟨y - 128 - 1, by omega⟩
      rw [hm, List.take_succ_cons, beval_cons, Nat.add_sub_cancel]
      have hl2 : (s.take m).length = m := by rw [List.length_take]; simp at h33; omega
      rw [hl2]
      have : 0 < z := by simp at h34; omega
      exact Nat.le_trans (Nat.le_mul_of_pos_right _ this) (Nat.le_add_right _ _)
    have hk := bytes_len_eq hge hlt (by omega)
    generalize beval (r.take (y - 128)) = m at *
    by_cases h4 : m < 128
    · rw [if_pos h4] at h; cases h
    rw [if_neg h4] at h
    by_cases h5 : (r.drop (y - 128)).length < m
    · rw [if_pos h5] at h; cases h
    rw [if_neg h5] at h
    simp only [Option.some.injEq, Prod.mk.injEq] at h
    obtain ⟨rfl, rfl, rfl⟩ := h
    have hl2 : ((r.drop (y - 128)).take m).length = m := by rw [List.length_take]; omega
    have hm : m < 16777216 := by
      have e1 : 256 ^ (y - 128) ≤ 256 ^ 3 := Nat.pow_le_pow_right (by omega) (show y - 128 ≤ 3 by omega)
      have e2 : (256 : Nat) ^ 3 = 16777216 := by rfl
      omega
    refine ⟨?_, hx, by simp only [List.length_cons, List.length_drop, hl2] at h5 ⊢; omega, by omega⟩
    unfold headed
    rw [hl2, lenBytes_ge (by omega), hk, hbv, e0 x hx, show 128 + (y - 128) = y from by omega]
    simp only [List.cons_append, List.append_assoc]
    rw [List.take_append_drop, List.take_append_drop]

/-! ### The two readers -/
mutual
def nodeN : Nat → List Nat → Nat → Int → Option (Nd × List Nat) × Int
  | 0, _, _, l => (none, l - 1)
  | f + 1, b, d, l =>
    if l - 1 < 0 ∨ 16 ≤ d then (none, l - 1)
    else match headB b with
    | none => (none, l - 1)
    | some (t, held, rest) =>
      if t ≠ 48 then (if plainB t held then some (.mk t held [], rest) else none, l - 1)
      else match kidsN f held (d + 1) (l - 1) with
        | (some ks, l') => (some (.mk t [] ks, rest), l')
        | (none, l') => (none, l')
def kidsN : Nat → List Nat → Nat → Int → Option (List Nd) × Int
  | 0, _, _, l => (none, l)
  | f + 1, h, d, l =>
    if h.length = 0 then (some [], l)
    else match nodeN f h d l with
      | (some (k, rest), l') => (match kidsN f rest d l' with
        | (some ks, l'') => (some (k :: ks), l'')
        | (none, l'') => (none, l''))
      | (none, l') => (none, l')
end
mutual
def getN : Nat → List Nat → Nat → Option (Nd × Nat)
  | 0, _, _ => none
  | f + 1, b, d =>
    if 16 < d then none
    else match headB b with
    | none => none
    | some (t, held, rest) =>
      if t ≠ 48 then (if plainB t held then some (.mk t held [], b.length - rest.length) else none)
      else match getKs f held (d + 1) with
        | some ks => some (.mk t [] ks, b.length - rest.length)
        | none => none
def getKs : Nat → List Nat → Nat → Option (List Nd)
  | 0, _, _ => none
  | f + 1, h, d =>
    if h.length = 0 then some []
    else match getN f h d with
      | some (k, used) => (match getKs f (h.drop used) d with
        | some ks => some (k :: ks)
        | none => none)
      | none => none
end
theorem headed_drop (t : Int) (c rest : List Nat) : (headed t c ++ rest).drop ((headed t c ++ rest).length - rest.length) = rest := by
  rw [List.length_append, Nat.add_sub_cancel, List.drop_left]
mutual
theorem get_spec : ∀ (f : Nat) (b : List Nat) (d : Nat) (x : Nd) (u : Nat), Dig 256 b → getN f b d = some (x, u) → u ≤ b.length ∧ putN x = b.take u ∧ okN x = true ∧ d + deepN x ≤ 17 ∧ 2 ≤ u ∧ (putN x).length = u
  | 0, b, d, x, u, hb, h => by simp [getN] at h
  | f + 1, b, d, x, u, hb, h => by
    unfold getN at h
    by_cases h1 : 16 < d
    · rw [if_pos h1] at h; cases h
    rw [if_neg h1] at h
    cases hh : headB b with
    | none => rw [hh] at h; cases h
    | some y =>
      obtain ⟨t, held, rest⟩ := y
      rw [hh] at h
      simp only at h
      obtain ⟨hb1, ht, hl, _⟩ := head_spec hb hh
      have hD : Dig 256 held := by
        rw [hb1] at hb
        have := (Dig.app.1 hb).1
        unfold headed at this
        exact (Dig.app.1 (Dig.cons.1 this).2).2
      have hU : b.take (b.length - rest.length) = headed t held := by
        rw [hb1, List.length_append, Nat.add_sub_cancel, List.take_left]
      have hLen : (headed t held).length = b.length - rest.length := by
        have := congrArg List.length hb1
        rw [List.length_append] at this
        omega
      by_cases h2 : t ≠ 48
      · rw [if_pos h2] at h
        by_cases h3 : plainB t held = true
        · rw [if_pos h3] at h
          simp only [Option.some.injEq, Prod.mk.injEq] at h
          obtain ⟨rfl, rfl⟩ := h
          have h2' : (t : Int) ≠ 48 := by omega
          have hp : putN (.mk t held []) = headed t held := by unfold putN; rw [if_neg h2']
          refine ⟨by omega, by rw [hp, hU], ?_, by simp only [deepN, deepKs]; omega, by omega, by rw [hp, hLen]⟩
          unfold okN
          rw [if_pos h2', h3]
          rfl
        · rw [if_neg h3] at h; cases h
      · rw [if_neg h2] at h
        cases hk : getKs f held (d + 1) with
        | none => rw [hk] at h; cases h
        | some ks =>
          rw [hk] at h
          simp only [Option.some.injEq, Prod.mk.injEq] at h
          obtain ⟨rfl, rfl⟩ := h
          obtain ⟨k1, k2, k3⟩ := getKs_spec f held (d + 1) ks hD hk
          have hp : putN (.mk t [] ks) = headed t held := by
            unfold putN
            rw [if_pos (by omega), k1]
          refine ⟨by omega, by rw [hp, hU], ?_, ?_, by omega, by rw [hp, hLen]⟩
          · unfold okN
            rw [if_neg (by omega), k2]
            rfl
          · unfold deepN
            rcases Nat.eq_zero_or_pos (deepKs ks) with h | h
            · omega
            · have := k3 h; omega
theorem getKs_spec : ∀ (f : Nat) (h : List Nat) (d : Nat) (ks : List Nd), Dig 256 h → getKs f h d = some ks → putKs ks = h ∧ okN.okKs ks = true ∧ (0 < deepKs ks → d + deepKs ks ≤ 17)
  | 0, h, d, ks, hb, hg => by simp [getKs] at hg
  | f + 1, h, d, ks, hb, hg => by
    unfold getKs at hg
    by_cases h1 : h.length = 0
    · rw [if_pos h1] at hg
      simp only [Option.some.injEq] at hg
      subst hg
      have := List.eq_nil_of_length_eq_zero h1
      subst this
      exact ⟨rfl, rfl, by simp [deepKs]⟩
    · rw [if_neg h1] at hg
      cases hn : getN f h d with
      | none => rw [hn] at hg; cases hg
      | some y =>
        obtain ⟨k, used⟩ := y
        rw [hn] at hg
        simp only at hg
        obtain ⟨a1, a2, a3, a4, a5, a6⟩ := get_spec f h d k used hb hn
        cases hr : getKs f (h.drop used) d with
        | none => rw [hr] at hg; cases hg
        | some ks' =>
          rw [hr] at hg
          simp only [Option.some.injEq] at hg
          subst hg
          obtain ⟨r1, r2, r3⟩ := getKs_spec f (h.drop used) d ks' (hb.drop used) hr
          refine ⟨by simp only [putKs, a2, r1, List.take_append_drop], by simp only [okN.okKs, a3, r2, Bool.and_self], fun _ => ?_⟩
          unfold deepKs
          rcases Nat.eq_zero_or_pos (deepKs ks') with h | h
          · omega
          · have := r3 h; omega
end
mutual
theorem node_get : ∀ (f : Nat) (b : List Nat) (d : Nat) (l : Int), Dig 256 b →
    match getN f b (d + 1) with
    | none => (nodeN f b d l).1 = none
    | some (x, u) => if (sizeN x : Int) ≤ l then nodeN f b d l = (some (x, b.drop u), l - sizeN x) else (nodeN f b d l).1 = none
  | 0, b, d, l, _ => by simp [getN, nodeN]
  | f + 1, b, d, l, hb => by
    unfold getN nodeN
    by_cases h1 : 16 ≤ d
    · rw [if_pos (by omega), if_pos (.inr h1)]
    rw [if_neg (by omega)]
    by_cases h0 : l - 1 < 0
    · rw [if_pos (.inl h0)]
      have key : ∀ x : Nd, ¬ (sizeN x : Int) ≤ l := fun x h => by have := sizeN_pos x; omega
      split
      · rfl
      · rw [if_neg (key _)]
    rw [if_neg (by omega)]
    cases hh : headB b with
    | none => rfl
    | some y =>
      obtain ⟨t, held, rest⟩ := y
      simp only
      obtain ⟨hb1, ht, hl, _⟩ := head_spec hb hh
      have hD : Dig 256 held := by
        rw [hb1] at hb
        have := (Dig.app.1 hb).1
        unfold headed at this
        exact (Dig.app.1 (Dig.cons.1 this).2).2
      have hR : b.drop (b.length - rest.length) = rest := by
        have := headed_drop t held rest
        rwa [← hb1] at this
      by_cases h2 : t ≠ 48
      · rw [if_pos h2, if_pos h2]
        by_cases h3 : plainB t held = true
        · rw [if_pos h3, if_pos h3]
          simp only [sizeN, sizeKs, hR]
          rw [if_pos (by omega)]
          rfl
        · rw [if_neg h3, if_neg h3]
      · rw [if_neg h2, if_neg h2]
        have hk := kids_get f held (d + 1) (l - 1) hD (by omega)
        cases hg : getKs f held (d + 1 + 1) with
        | none =>
          rw [hg] at hk
          simp only at hk ⊢
          generalize kidsN f held (d + 1) (l - 1) = z at hk ⊢
          obtain ⟨z1, z2⟩ := z
          simp only at hk
          subst hk
          rfl
        | some ks =>
          rw [hg] at hk
          simp only at hk ⊢
          simp only [sizeN, hR]
          by_cases h4 : (sizeKs ks : Int) ≤ l - 1
          · rw [if_pos h4] at hk
            rw [hk, if_pos (by omega)]
            simp only [Prod.mk.injEq, true_and]
            omega
          · rw [if_neg h4] at hk
            rw [if_neg (by omega)]
            generalize kidsN f held (d + 1) (l - 1) = z at hk ⊢
            obtain ⟨z1, z2⟩ := z
            simp only at hk
            subst hk
            rfl
theorem kids_get : ∀ (f : Nat) (h : List Nat) (d : Nat) (l : Int), Dig 256 h → 0 ≤ l →
    match getKs f h (d + 1) with
    | none => (kidsN f h d l).1 = none
    | some ks => if (sizeKs ks : Int) ≤ l then kidsN f h d l = (some ks, l - sizeKs ks) else (kidsN f h d l).1 = none
  | 0, b, d, l, _, _ => by simp [getKs, kidsN]
  | f + 1, h, d, l, hb, h0 => by
    unfold getKs kidsN
    by_cases h1 : h.length = 0
    · rw [if_pos h1, if_pos h1]
      simp only
      rw [if_pos (show ((sizeKs [] : Nat) : Int) ≤ l by simp only [sizeKs]; omega)]
      simp [sizeKs]
    rw [if_neg h1, if_neg h1]
    have hn := node_get f h d l hb
    cases hg : getN f h (d + 1) with
    | none =>
      rw [hg] at hn
      simp only at hn ⊢
      generalize nodeN f h d l = z at hn ⊢
      obtain ⟨z1, z2⟩ := z
      simp only at hn
      subst hn
      rfl
    | some y =>
      obtain ⟨k, used⟩ := y
      rw [hg] at hn
      simp only at hn ⊢
      have hr := kids_get f (h.drop used) d (l - sizeN k) (hb.drop used)
      by_cases h2 : (sizeN k : Int) ≤ l
      · rw [if_pos h2] at hn
        rw [hn]
        simp only
        have hr' := hr (by omega)
        cases hgr : getKs f (h.drop used) (d + 1) with
        | none =>
          rw [hgr] at hr'
          simp only at hr' ⊢
          generalize kidsN f (h.drop used) d (l - sizeN k) = z at hr' ⊢
          obtain ⟨z1, z2⟩ := z
          simp only at hr'
          subst hr'
          rfl
        | some ks =>
          rw [hgr] at hr'
          simp only at hr' ⊢
          have e : sizeKs (k :: ks) = sizeN k + sizeKs ks := by simp only [sizeKs]
          by_cases h3 : (sizeKs ks : Int) ≤ l - sizeN k
          · rw [if_pos h3] at hr'
            rw [hr', if_pos (by omega)]
            simp only [Prod.mk.injEq, true_and]
            omega
          · rw [if_neg h3] at hr'
            rw [if_neg (by omega)]
            generalize kidsN f (h.drop used) d (l - sizeN k) = z at hr' ⊢
            obtain ⟨z1, z2⟩ := z
            simp only at hr'
            subst hr'
            rfl
      · rw [if_neg h2] at hn
        generalize nodeN f h d l = z at hn ⊢
        obtain ⟨z1, z2⟩ := z
        simp only at hn
        subst hn
        split
        · rfl
        · rename_i ks hks
          rw [if_neg]
          split at hks
          · simp only [Option.some.injEq] at hks
            subst hks
            simp only [sizeKs]
            omega
          · cases hks
end


theorem plain_tag {t : Int} {b : List Nat} (h : plainB t b = true) : 0 ≤ t ∧ t < 7 := by
  unfold plainB at h
  by_cases h2 : t = 2
  · omega
  by_cases h3 : t = 3
  · omega
  by_cases h4 : t = 4
  · omega
  by_cases h5 : t = 5
  · omega
  by_cases h6 : t = 6
  · omega
  rw [if_neg h2, if_neg h3, if_neg h4, if_neg h5, if_neg h6] at h
  cases h
theorem putN_ge : ∀ k : Nd, 2 ≤ (putN k).length
  | .mk t b ks => by
    unfold putN
    have := headed_ge t (if t = 48 then putKs ks else b)
    omega
mutual
theorem get_put : ∀ (x : Nd) (f d : Nat) (more : List Nat), okN x = true → d + deepN x ≤ 17 → (putN x).length ≤ 65536 → (putN x).length + more.length + 2 ≤ f → getN f (putN x ++ more) d = some (x, (putN x).length)
  | .mk t b ks, 0, d, more, h1, h2, h3, h4 => by omega
  | .mk t b ks, f + 1, d, more, h1, h2, h3, h4 => by
    unfold okN at h1
    unfold deepN at h2
    unfold getN
    rw [if_neg (by omega)]
    have e48 : ∀ n : Nat, ((n : Int) = 48) = (n = 48) := fun n => by simp only [eq_iff_iff]; omega
    by_cases ht : t ≠ 48
    · rw [if_pos ht] at h1
      simp only [Bool.and_eq_true, decide_eq_true_eq] at h1
      have hk : ks = [] := List.eq_nil_of_length_eq_zero h1.1
      subst hk
      obtain ⟨t0, t7⟩ := plain_tag h1.2
      have hp : putN (.mk t b []) = headed t b := by unfold putN; rw [if_neg ht]
      rw [hp] at h3 h4 ⊢
      obtain ⟨tn, rfl⟩ := Int.eq_ofNat_of_zero_le t0
      have hl := headed_ge (tn : Int) b
      rw [head_headed tn b more (by omega) (by omega)]
      simp only
      rw [if_pos (by omega), if_pos h1.2, List.length_append, Nat.add_sub_cancel]
    · rw [if_neg ht] at h1
      simp only [Bool.and_eq_true, decide_eq_true_eq] at h1
      have hb : b = [] := List.eq_nil_of_length_eq_zero h1.1
      subst hb
      have ht' : t = ((48 : Nat) : Int) := by omega
      subst ht'
      have hp : putN (.mk ((48 : Nat) : Int) [] ks) = headed ((48 : Nat) : Int) (putKs ks) := by
        unfold putN
        have : (if ((48 : Nat) : Int) = 48 then putKs ks else []) = putKs ks := if_pos (by omega)
        rw [this]
      rw [hp] at h3 h4 ⊢
      have hl := headed_ge ((48 : Nat) : Int) (putKs ks)
      rw [head_headed 48 (putKs ks) more (by omega) (by omega)]
      simp only
      rw [if_neg (by omega), getKs_put ks f (d + 1) h1.2 (fun h => by omega) (by omega) (by omega)]
      simp only
      rw [List.length_append, Nat.add_sub_cancel]
theorem getKs_put : ∀ (ks : List Nd) (f d : Nat), okN.okKs ks = true → (0 < deepKs ks → d + deepKs ks ≤ 17) → (putKs ks).length ≤ 65536 → (putKs ks).length + 3 ≤ f → getKs f (putKs ks) d = some ks
  | ks, 0, d, h1, h2, h3, h4 => by omega
  | [], f + 1, d, h1, h2, h3, h4 => by simp [getKs, putKs]
  | k :: r, f + 1, d, h1, h2, h3, h4 => by
    simp only [okN.okKs, Bool.and_eq_true] at h1
    have hp := deepN_pos k
    unfold deepKs at h2
    have h2' := h2 (by omega)
    unfold putKs at h3 h4 ⊢
    rw [List.length_append] at h3 h4
    have hl := putN_ge k
    unfold getKs
    rw [if_neg (by rw [List.length_append]; omega), get_put k f d (putKs r) h1.1 (by omega) (by omega) (by omega)]
    simp only
    rw [List.drop_left, getKs_put r f d h1.2 (fun h => by omega) (by omega) (by omega)]
end

/-! ### Reading, whole -/
def ReadN (b : List Nat) : Option (Nd × Nat) :=
  match (nodeN (b.length + 2) b 0 1024).1 with
  | some (n, rest) => if 65536 < b.length - rest.length then none else some (n, b.length - rest.length)
  | none => none
def RefRead (b : List Nat) : Option (Nd × Nat) :=
  match getN (b.length + 2) b 1 with
  | some (x, u) => if 65536 < u ∨ RefMay x = false then none else some (x, u)
  | none => none
theorem may_of_ok {n : Nd} (h1 : okN n = true) (h2 : deepN n ≤ 16) : (MayN n = true ↔ sizeN n ≤ 1024) := by
  unfold MayN
  rw [(may_iff n 0 1024).1]
  constructor
  · intro h; omega
  · intro h; exact ⟨h1, by omega, by omega⟩
theorem read_ref {b : List Nat} (hb : Dig 256 b) : ReadN b = RefRead b := by
  unfold ReadN RefRead
  have h := node_get (b.length + 2) b 0 1024 hb
  simp only [Nat.zero_add] at h
  cases hg : getN (b.length + 2) b 1 with
  | none =>
    rw [hg] at h
    simp only at h
    rw [h]
  | some y =>
    obtain ⟨x, u⟩ := y
    rw [hg] at h
    simp only at h ⊢
    obtain ⟨a1, a2, a3, a4, a5, a6⟩ := get_spec _ b 1 x u hb hg
    have hm := may_of_ok a3 (by omega)
    rw [may_ref] at hm
    by_cases hs : (sizeN x : Int) ≤ 1024
    · rw [if_pos hs] at h
      rw [h]
      simp only
      have hm2 := hm.2 (by omega)
      rw [List.length_drop, show b.length - (b.length - u) = u from by omega, hm2]
      simp
    · rw [if_neg hs] at h
      rw [h]
      simp only
      have hm2 : RefMay x = false := by
        cases hh : RefMay x with
        | false => rfl
        | true => have := hm.1 hh; omega
      rw [if_pos (.inr hm2)]
theorem read_write {b : List Nat} (hb : Dig 256 b) {n : Nd} {u : Nat} (h : ReadN b = some (n, u)) : u ≤ b.length ∧ WriteN n = some (b.take u) := by
  rw [read_ref hb] at h
  unfold RefRead at h
  cases hg : getN (b.length + 2) b 1 with
  | none => rw [hg] at h; cases h
  | some y =>
    obtain ⟨x, v⟩ := y
    rw [hg] at h
    simp only at h
    obtain ⟨a1, a2, a3, a4, a5, a6⟩ := get_spec _ b 1 x v hb hg
    by_cases hc : 65536 < v ∨ RefMay x = false
    · rw [if_pos hc] at h; cases h
    · rw [if_neg hc] at h
      simp only [Option.some.injEq, Prod.mk.injEq] at h
      obtain ⟨rfl, rfl⟩ := h
      refine ⟨a1, ?_⟩
      rw [write_ref]
      unfold RefWrite
      have hm : RefMay x = true := by
        cases hh : RefMay x with
        | true => rfl
        | false => exact absurd (.inr hh) hc
      rw [hm, if_pos rfl, if_neg (by omega), a2]
/-! ### Bytes are bytes -/
mutual
def DigN : Nd → Prop
  | .mk _ b ks => Dig 256 b ∧ DigKs ks
def DigKs : List Nd → Prop
  | [] => True
  | k :: r => DigN k ∧ DigKs r
end
theorem headed_dig {t : Int} {b : List Nat} (h : Dig 256 b) (hl : b.length ≤ 65536) : Dig 256 (headed t b) := by
  unfold headed
  refine Dig.cons.2 ⟨by omega, Dig.app.2 ⟨?_, h⟩⟩
  unfold lenBytes
  split
  · exact Dig.cons.2 ⟨by omega, Dig.nil⟩
  · refine Dig.cons.2 ⟨?_, bebytes_dig _ _⟩
    have : blen b.length ≤ 17 := blen_le.2 (by omega)
    omega
mutual
theorem putN_dig : ∀ n : Nd, DigN n → (putN n).length ≤ 65536 → Dig 256 (putN n)
  | .mk t b ks, h, hl => by
    unfold DigN at h
    unfold putN at hl ⊢
    have hg := headed_ge t (if t = 48 then putKs ks else b)
    by_cases ht : t = 48
    · have e : (if t = 48 then putKs ks else b) = putKs ks := if_pos ht
      rw [e] at hl hg ⊢
      exact headed_dig (putKs_dig ks h.2 (by omega)) (by omega)
    · have e : (if t = 48 then putKs ks else b) = b := if_neg ht
      rw [e] at hl hg ⊢
      exact headed_dig h.1 (by omega)
theorem putKs_dig : ∀ ks : List Nd, DigKs ks → (putKs ks).length ≤ 65536 → Dig 256 (putKs ks)
  | [], _, _ => Dig.nil
  | k :: r, h, hl => by
    unfold DigKs at h
    unfold putKs at hl ⊢
    rw [List.length_append] at hl
    exact Dig.app.2 ⟨putN_dig k h.1 (by omega), putKs_dig r h.2 (by omega)⟩
end
theorem write_some {n : Nd} {c : List Nat} (h : WriteN n = some c) : c = putN n ∧ c.length ≤ 65536 ∧ MayN n = true := by
  have hm : MayN n = true := by
    unfold WriteN at h
    cases hh : MayN n with
    | true => rfl
    | false => rw [hh] at h; cases h
  rw [write_ref] at h
  unfold RefWrite at h
  rw [← may_ref, hm, if_pos rfl] at h
  by_cases hl : 65536 < (putN n).length
  · rw [if_pos hl] at h; cases h
  · rw [if_neg hl] at h
    simp only [Option.some.injEq] at h
    subst h
    exact ⟨rfl, by omega, hm⟩
theorem write_read {n : Nd} {c more : List Nat} (h : WriteN n = some c) (hd : DigN n) (hm : Dig 256 more) : ReadN (c ++ more) = some (n, c.length) := by
  obtain ⟨rfl, hl, hmay⟩ := write_some h
  rw [read_ref (Dig.app.2 ⟨putN_dig n hd hl, hm⟩)]
  unfold RefRead
  obtain ⟨h1, h2, h3⟩ := ok_of_may hmay
  rw [get_put n _ 1 more h1 (by omega) hl (by rw [List.length_append]; omega)]
  simp only
  rw [may_ref] at hmay
  rw [hmay, if_neg (by simp only [not_or]; exact ⟨by omega, by simp⟩)]
end Go.Proofs.Ytanelmmklnpohaa
