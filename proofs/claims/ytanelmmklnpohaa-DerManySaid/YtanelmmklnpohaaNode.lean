/-
  DER in plain Lean: nodes, what may be, how it is written and read, in the program's way and in the reference's.
  Conditions: none; definitions and lemmas alone.
-/
import Derived.Test.YtanelmmklnpohaaNum2
namespace Go.Proofs.Ytanelmmklnpohaa

inductive Nd where
  | mk (tag : Int) (bytes : List Nat) (kids : List Nd)

def Nd.tag : Nd → Int | .mk t _ _ => t
def Nd.bytes : Nd → List Nat | .mk _ b _ => b
def Nd.kids : Nd → List Nd | .mk _ _ k => k

/-- Are bytes numbers to the base 128? ('begins': the next one begins a number) -/
def nameFrom : Bool → List Nat → Bool
  | begins, [] => begins
  | begins, x :: r => if begins && decide (x = 128) then false else nameFrom (decide (x < 128)) r
def nameB (b : List Nat) : Bool := decide (0 < b.length) && nameFrom true b
def plainB (t : Int) (b : List Nat) : Bool :=
  if t = 2 then decide (0 < b.length) && (decide (b.getD 0 0 < 128) && (decide (0 < b.getD 0 0) || (decide (b.length = 1) || decide (128 ≤ b.getD 1 0))))
  else if t = 3 then decide (0 < b.length) && decide (b.getD 0 0 = 0)
  else if t = 4 then true
  else if t = 5 then decide (b.length = 0)
  else if t = 6 then nameB b
  else false

mutual
def mayN : Nd → Nat → Int → Bool × Int
  | .mk t b ks, d, l =>
    if l - 1 < 0 ∨ 16 ≤ d then (false, l - 1)
    else if t ≠ 48 then (decide (ks.length = 0) && plainB t b, l - 1)
    else if 0 < b.length then (false, l - 1)
    else mayKs ks (d + 1) (l - 1)
def mayKs : List Nd → Nat → Int → Bool × Int
  | [], _, l => (true, l)
  | k :: r, d, l => if (mayN k d l).1 then mayKs r d (mayN k d l).2 else (false, (mayN k d l).2)
end
def MayN (n : Nd) : Bool := (mayN n 0 1024).1

/-- How a length's own bytes are told. -/
def lenBytes (n : Nat) : List Nat := if n < 128 then [n] else (128 + (blen n + 7) / 8) :: bebytes ((blen n + 7) / 8) n
def headed (t : Int) (b : List Nat) : List Nat := (t % 256).toNat :: (lenBytes b.length ++ b)

mutual
def writeN : Nd → Option (List Nat)
  | .mk t b ks =>
    match writeKs ks b with
    | none => none
    | some c => if 65536 < c.length then none else if (headed t c).length ≤ 65536 then some (headed t c) else none
def writeKs : List Nd → List Nat → Option (List Nat)
  | [], b => some b
  | k :: r, b =>
    match writeN k with
    | none => none
    | some x => if 65536 < (b ++ x).length then none else writeKs r (b ++ x)
end
def WriteN (n : Nd) : Option (List Nat) := if MayN n then writeN n else none

mutual
def putN : Nd → List Nat
  | .mk t b ks => headed t (if t = 48 then putKs ks else b)
def putKs : List Nd → List Nat
  | [] => []
  | k :: r => putN k ++ putKs r
end

mutual
def countN : Nd → Nat → Int
  | .mk t b ks, d =>
    if 16 < d then -1
    else if t ≠ 48 then (if 0 < ks.length ∨ plainB t b = false then -1 else 1)
    else if 0 < b.length then -1
    else countKs ks (d + 1) 1
def countKs : List Nd → Nat → Int → Int
  | [], _, k => k
  | n :: r, d, k => if countN n d < 0 ∨ 1024 < k + countN n d then -1 else countKs r d (k + countN n d)
end
def RefMay (n : Nd) : Bool := decide (0 < countN n 1)

mutual
def sizeN : Nd → Nat
  | .mk _ _ ks => 1 + sizeKs ks
def sizeKs : List Nd → Nat
  | [] => 0
  | k :: r => sizeN k + sizeKs r
end
mutual
def deepN : Nd → Nat
  | .mk _ _ ks => 1 + deepKs ks
def deepKs : List Nd → Nat
  | [] => 0
  | k :: r => max (deepN k) (deepKs r)
end
/-- Valid but for how many nodes and how deep. -/
def okN : Nd → Bool
  | .mk t b ks => if t ≠ 48 then decide (ks.length = 0) && plainB t b else decide (b.length = 0) && okKs ks
where okKs : List Nd → Bool
  | [] => true
  | k :: r => okN k && okKs r

/-! ### What may be: both ways the same -/
theorem deepN_pos : ∀ n : Nd, 0 < deepN n
  | .mk _ _ ks => by unfold deepN; omega
theorem sizeN_pos : ∀ n : Nd, 0 < sizeN n
  | .mk _ _ ks => by unfold sizeN; omega
mutual
theorem may_iff : ∀ (n : Nd) (d : Nat) (l : Int), ((mayN n d l).1 = true ↔ okN n = true ∧ d + deepN n ≤ 16 ∧ (sizeN n : Int) ≤ l) ∧ ((mayN n d l).1 = true → (mayN n d l).2 = l - sizeN n)
  | .mk t b ks, d, l => by
    unfold mayN okN sizeN deepN
    by_cases h1 : l - 1 < 0 ∨ 16 ≤ d
    · rw [if_pos h1]
      refine ⟨?_, fun h => by cases h⟩
      simp only [Bool.false_eq_true, false_iff, not_and]
      intros
      omega
    · rw [if_neg h1]
      by_cases h2 : t ≠ 48
      · rw [if_pos h2, if_pos h2]
        have key : (decide (ks.length = 0) && plainB t b) = true → ks = [] := by
          intro h
          simp only [Bool.and_eq_true, decide_eq_true_eq] at h
          exact List.eq_nil_of_length_eq_zero h.1
        refine ⟨⟨fun h => ?_, fun h => h.1⟩, fun h => ?_⟩
        · have hk := key h
          subst hk
          exact ⟨h, by simp only [deepKs]; omega, by simp only [sizeKs]; omega⟩
        · have hk := key h
          subst hk
          simp [sizeKs]
      · rw [if_neg h2, if_neg h2]
        by_cases h3 : 0 < b.length
        · rw [if_pos h3]
          refine ⟨?_, fun h => by cases h⟩
          simp only [Bool.false_eq_true, Bool.and_eq_true, decide_eq_true_eq, false_iff, not_and]
          intros
          omega
        · rw [if_neg h3]
          obtain ⟨k1, k2⟩ := mayKs_iff ks (d + 1) (l - 1) (by omega)
          refine ⟨?_, fun h => by rw [k2 h]; omega⟩
          rw [k1]
          simp only [Bool.and_eq_true, decide_eq_true_eq]
          constructor
          · rintro ⟨h4, h5, h6⟩
            exact ⟨⟨by omega, h4⟩, by rcases Nat.eq_zero_or_pos (deepKs ks) with h | h <;> omega, by omega⟩
          · rintro ⟨⟨_, h4⟩, h5, h6⟩
            exact ⟨h4, fun _ => by omega, by omega⟩
theorem mayKs_iff : ∀ (ks : List Nd) (d : Nat) (l : Int), 0 ≤ l → (((mayKs ks d l).1 = true ↔ okN.okKs ks = true ∧ (0 < deepKs ks → d + deepKs ks ≤ 16) ∧ (sizeKs ks : Int) ≤ l) ∧ ((mayKs ks d l).1 = true → (mayKs ks d l).2 = l - sizeKs ks))
  | [], d, l, h0 => by simp [mayKs, okN.okKs, deepKs, sizeKs, h0]
  | k :: r, d, l, h0 => by
    obtain ⟨k1, k2⟩ := may_iff k d l
    unfold mayKs okN.okKs deepKs sizeKs
    by_cases h : (mayN k d l).1 = true
    · rw [if_pos h]
      have h4 := k2 h
      obtain ⟨h1, h2, h3⟩ := k1.1 h
      obtain ⟨r1, r2⟩ := mayKs_iff r d (l - sizeN k) (by omega)
      rw [h4]
      have := deepN_pos k
      refine ⟨?_, fun h => by rw [r2 h]; omega⟩
      rw [r1]
      simp only [Bool.and_eq_true]
      constructor
      · rintro ⟨a1, a2, a3⟩
        exact ⟨⟨h1, a1⟩, fun _ => by rcases Nat.eq_zero_or_pos (deepKs r) with h | h <;> omega, by omega⟩
      · rintro ⟨⟨_, a1⟩, a2, a3⟩
        exact ⟨a1, fun _ => by omega, by omega⟩
    · rw [if_neg h]
      refine ⟨?_, fun h => by cases h⟩
      have := deepN_pos k
      simp only [Bool.false_eq_true, false_iff, Bool.and_eq_true, not_and]
      rintro ⟨a1, _⟩ a2 a3
      exact h (k1.2 ⟨a1, by omega, by omega⟩)
end
mutual
theorem count_iff : ∀ (n : Nd) (d : Nat), (okN n = true ∧ d + deepN n ≤ 17 ∧ sizeN n ≤ 1024 → countN n d = sizeN n) ∧ (0 ≤ countN n d → okN n = true ∧ d + deepN n ≤ 17 ∧ sizeN n ≤ 1024 ∧ countN n d = sizeN n)
  | .mk t b ks, d => by
    unfold countN okN sizeN deepN
    by_cases h1 : 16 < d
    · rw [if_pos h1]
      exact ⟨fun h => by omega, fun h => by omega⟩
    · rw [if_neg h1]
      by_cases h2 : t ≠ 48
      · rw [if_pos h2, if_pos h2]
        by_cases h3 : 0 < ks.length ∨ plainB t b = false
        · rw [if_pos h3]
          refine ⟨?_, fun h => by omega⟩
          simp only [Bool.and_eq_true, decide_eq_true_eq]
          rintro ⟨⟨a1, a2⟩, _⟩
          rcases h3 with h3 | h3
          · omega
          · rw [h3] at a2; cases a2
        · rw [if_neg h3]
          have hk : ks = [] := List.eq_nil_of_length_eq_zero (by omega)
          have hp : plainB t b = true := by
            cases h : plainB t b with
            | true => rfl
            | false => exact absurd (Or.inr h) h3
          subst hk
          exact ⟨fun _ => by simp [sizeKs], fun _ => ⟨by simp [hp], by simp only [deepKs]; omega, by simp only [sizeKs]; omega, by simp [sizeKs]⟩⟩
      · rw [if_neg h2, if_neg h2]
        by_cases h3 : 0 < b.length
        · rw [if_pos h3]
          refine ⟨?_, fun h => by omega⟩
          simp only [Bool.and_eq_true, decide_eq_true_eq]
          rintro ⟨⟨a1, a2⟩, _⟩
          omega
        · rw [if_neg h3]
          obtain ⟨k1, k2⟩ := countKs_iff ks (d + 1) 1 (by omega)
          simp only [Bool.and_eq_true, decide_eq_true_eq]
          constructor
          · rintro ⟨⟨a1, a2⟩, a3, a4⟩
            rw [k1 ⟨a2, fun _ => by omega, by omega⟩]
            omega
          · intro h
            obtain ⟨a1, a2, a3, a4⟩ := k2 h
            exact ⟨⟨by omega, a1⟩, by rcases Nat.eq_zero_or_pos (deepKs ks) with h | h <;> omega, by omega, by omega⟩
theorem countKs_iff : ∀ (ks : List Nd) (d : Nat) (k : Int), 0 < k ∧ k ≤ 1024 → ((okN.okKs ks = true ∧ (0 < deepKs ks → d + deepKs ks ≤ 17) ∧ k + sizeKs ks ≤ 1024 → countKs ks d k = k + sizeKs ks) ∧ (0 ≤ countKs ks d k → okN.okKs ks = true ∧ (0 < deepKs ks → d + deepKs ks ≤ 17) ∧ k + sizeKs ks ≤ 1024 ∧ countKs ks d k = k + sizeKs ks))
  | [], d, k, h0 => by simp only [countKs, okN.okKs, deepKs, sizeKs]; exact ⟨fun _ => by omega, fun _ => ⟨trivial, by omega, by omega, by omega⟩⟩
  | n :: r, d, k, h0 => by
    obtain ⟨k1, k2⟩ := count_iff n d
    unfold countKs okN.okKs deepKs sizeKs
    have hp := deepN_pos n
    have hs := sizeN_pos n
    by_cases h : countN n d < 0 ∨ 1024 < k + countN n d
    · rw [if_pos h]
      refine ⟨?_, fun h => by omega⟩
      simp only [Bool.and_eq_true]
      rintro ⟨⟨a1, a2⟩, a3, a4⟩
      have := k1 ⟨a1, by omega, by omega⟩
      omega
    · rw [if_neg h]
      obtain ⟨b1, b2, b3, b4⟩ := k2 (by omega)
      obtain ⟨r1, r2⟩ := countKs_iff r d (k + countN n d) (by omega)
      simp only [Bool.and_eq_true]
      constructor
      · rintro ⟨⟨a1, a2⟩, a3, a4⟩
        rw [r1 ⟨a2, fun _ => by omega, by omega⟩]
        omega
      · intro h
        obtain ⟨a1, a2, a3, a4⟩ := r2 h
        exact ⟨⟨b1, a1⟩, fun _ => by rcases Nat.eq_zero_or_pos (deepKs r) with h | h <;> omega, by omega, by omega⟩
end
theorem may_ref (n : Nd) : MayN n = RefMay n := by
  unfold MayN RefMay
  rw [Bool.eq_iff_iff, (may_iff n 0 1024).1, decide_eq_true_eq]
  obtain ⟨k1, k2⟩ := count_iff n 1
  have := sizeN_pos n
  constructor
  · rintro ⟨h1, h2, h3⟩
    rw [k1 ⟨h1, by omega, by omega⟩]
    omega
  · intro h
    obtain ⟨h1, h2, h3, _⟩ := k2 (by omega)
    exact ⟨h1, by omega, by omega⟩

/-! ### What is written: both ways the same -/
theorem lenBytes_length (n : Nat) : (lenBytes n).length = if n < 128 then 1 else 1 + (blen n + 7) / 8 := by
  unfold lenBytes
  split
  · rfl
  · simp [bebytes_length]; omega
theorem headed_length (t : Int) (b : List Nat) : (headed t b).length = 1 + (lenBytes b.length).length + b.length := by
  simp [headed]; omega
theorem headed_ge (t : Int) (b : List Nat) : b.length + 2 ≤ (headed t b).length := by
  rw [headed_length, lenBytes_length]
  split <;> omega
mutual
theorem write_eq : ∀ n : Nd, okN n = true → writeN n = if (putN n).length ≤ 65536 then some (putN n) else none
  | .mk t b ks, h => by
    unfold okN at h
    by_cases h2 : t ≠ 48
    · rw [if_pos h2] at h
      have hk : ks = [] := by
        simp only [Bool.and_eq_true, decide_eq_true_eq] at h
        exact List.eq_nil_of_length_eq_zero h.1
      subst hk
      unfold writeN putN
      have hp : (if t = 48 then putKs [] else b) = b := if_neg h2
      rw [hp]
      simp only [writeKs]
      by_cases h3 : 65536 < b.length
      · rw [if_pos h3, if_neg (by have := headed_ge t b; omega)]
      · rw [if_neg h3]
    · rw [if_neg h2] at h
      simp only [Bool.and_eq_true, decide_eq_true_eq] at h
      have hb : b = [] := List.eq_nil_of_length_eq_zero h.1
      subst hb
      unfold writeN putN
      have hp : (if t = 48 then putKs ks else []) = putKs ks := if_pos (by omega)
      rw [hp, writeKs_eq ks [] h.2]
      simp only [List.nil_append, List.length_nil, Nat.zero_add]
      by_cases h4 : (putKs ks).length ≤ 65536
      · rw [if_pos (.inr h4)]
        simp only
        rw [if_neg (by omega)]
      · by_cases h5 : ks = []
        · subst h5; simp [putKs] at h4
        · rw [if_neg (by simp only [h5, false_or]; exact h4)]
          simp only
          rw [if_neg (by have := headed_ge t (putKs ks); omega)]
theorem writeKs_eq : ∀ (ks : List Nd) (b : List Nat), okN.okKs ks = true → writeKs ks b = if ks = [] ∨ b.length + (putKs ks).length ≤ 65536 then some (b ++ putKs ks) else none
  | [], b, _ => by simp [writeKs, putKs]
  | k :: r, b, h => by
    simp only [okN.okKs, Bool.and_eq_true] at h
    unfold writeKs putKs
    rw [write_eq k h.1]
    by_cases h1 : (putN k).length ≤ 65536
    · rw [if_pos h1]
      simp only
      by_cases h2 : 65536 < (b ++ putN k).length
      · rw [if_pos h2, if_neg (by simp at h2 ⊢; omega)]
      · rw [if_neg h2, writeKs_eq r _ h.2]
        have e : (b ++ putN k).length + (putKs r).length = b.length + (putN k ++ putKs r).length := by simp; omega
        rw [e, List.append_assoc]
        by_cases h3 : b.length + (putN k ++ putKs r).length ≤ 65536
        · rw [if_pos (.inr h3), if_pos (.inr h3)]
        · by_cases h4 : r = []
          · subst h4
            simp [putKs] at h2 h3
            omega
          · rw [if_neg (by simp only [h4, false_or]; exact h3), if_neg (by simp only [reduceCtorEq, false_or]; exact h3)]
    · rw [if_neg h1]
      simp only
      rw [if_neg (by simp; omega)]
end
theorem ok_of_may {n : Nd} (h : MayN n = true) : okN n = true ∧ deepN n ≤ 16 ∧ sizeN n ≤ 1024 := by
  obtain ⟨h1, h2, h3⟩ := (may_iff n 0 1024).1.1 h
  exact ⟨h1, by omega, by omega⟩
def RefWrite (n : Nd) : Option (List Nat) := if RefMay n then (if 65536 < (putN n).length then none else some (putN n)) else none
theorem write_ref (n : Nd) : WriteN n = RefWrite n := by
  unfold WriteN RefWrite
  rw [may_ref]
  cases h : RefMay n with
  | false => rfl
  | true =>
    simp only [if_true]
    rw [write_eq n (ok_of_may (by rw [may_ref]; exact h)).1]
    by_cases h1 : (putN n).length ≤ 65536
    · rw [if_pos h1, if_neg (by omega)]
    · rw [if_neg h1, if_pos (by omega)]
end Go.Proofs.Ytanelmmklnpohaa
