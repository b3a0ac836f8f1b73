/-
  Object identifiers in plain: numbers to the base 128, arcs to bytes and back.
  Conditions: none; lemmas alone.
-/
import Derived.Test.YtanelmmklnpohaaNodeRead
namespace Go.Proofs.Ytanelmmklnpohaa
set_option linter.unusedVariables false
set_option linter.unusedSimpArgs false

def dgl : Nat → Nat → List Nat → List Nat
  | 0, _, acc => acc
  | f + 1, n, acc => if n = 0 then acc else dgl f (n / 128) ((128 + n % 128) :: acc)
def dig7 (n : Nat) : List Nat := dgl 5 (n / 128) [n % 128]
theorem dgl_app : ∀ (f n : Nat) (acc r : List Nat), dgl f n acc ++ r = dgl f n (acc ++ r)
  | 0, n, acc, r => rfl
  | f + 1, n, acc, r => by
    unfold dgl
    split
    · rfl
    · rw [dgl_app f]; rfl
theorem dgl_dig : ∀ (f n : Nat) (acc : List Nat), Dig 256 acc → Dig 256 (dgl f n acc)
  | 0, n, acc, h => h
  | f + 1, n, acc, h => by
    unfold dgl
    split
    · exact h
    · exact dgl_dig f _ _ (Dig.cons.2 ⟨by omega, h⟩)
theorem dgl_len : ∀ (f n : Nat) (acc : List Nat), (dgl f n acc).length ≤ f + acc.length ∧ acc.length ≤ (dgl f n acc).length
  | 0, n, acc => by unfold dgl; omega
  | f + 1, n, acc => by
    unfold dgl
    split
    · omega
    · have := dgl_len f (n / 128) ((128 + n % 128) :: acc)
      simp only [List.length_cons] at this
      omega
theorem dgl_small : ∀ (f n : Nat) (acc : List Nat), n = 0 → dgl f n acc = acc
  | 0, n, acc, h => rfl
  | f + 1, n, acc, h => by unfold dgl; rw [if_pos h]
theorem dig7_dig (n : Nat) : Dig 256 (dig7 n) := dgl_dig _ _ _ (Dig.cons.2 ⟨by omega, Dig.nil⟩)
theorem dig7_len (n : Nat) : (dig7 n).length ≤ 6 ∧ 1 ≤ (dig7 n).length := by
  have := dgl_len 5 (n / 128) [n % 128]
  unfold dig7
  simpa using this

/-- The reader of arcs: what is read so far, the number under way. 'strict': a number that is too great is refused at once. -/
def arcsGo (strict : Bool) : List Nat → List Nat → Nat → Option (List Nat)
  | [], l, _ => some l
  | x :: r, l, v =>
    if 268435536 < v * 128 + x % 128 then none
    else if 128 ≤ x then arcsGo strict r l (v * 128 + x % 128)
    else if l.length = 0 then
      (if strict = true ∧ 268435456 < (v * 128 + x % 128) - 40 * min ((v * 128 + x % 128) / 40) 2 then none
       else arcsGo strict r [min ((v * 128 + x % 128) / 40) 2, (v * 128 + x % 128) - 40 * min ((v * 128 + x % 128) / 40) 2] 0)
    else if strict = true ∧ 268435456 < v * 128 + x % 128 then none
    else arcsGo strict r (l ++ [v * 128 + x % 128]) 0

theorem arcsGo_dgl (s : Bool) : ∀ (f n : Nat) (acc l : List Nat), n < 128 ^ f → n ≤ 268435536 → arcsGo s (dgl f n acc) l 0 = arcsGo s acc l n
  | 0, n, acc, l, h, h2 => by
    have : n = 0 := by simpa using h
    subst this
    rfl
  | f + 1, n, acc, l, h, h2 => by
    unfold dgl
    split
    · rename_i h0; rw [h0]
    · rw [arcsGo_dgl s f (n / 128) _ l (by rw [Nat.pow_succ] at h; omega) (by omega)]
      have e : n / 128 * 128 + (128 + n % 128) % 128 = n := by omega
      rw [arcsGo, e, if_neg (by omega), if_pos (by omega)]
theorem arcsGo_dig7 (s : Bool) (n : Nat) (r l : List Nat) (h2 : n ≤ 268435536) : arcsGo s (dig7 n ++ r) l 0 =
    if l.length = 0 then
      (if s = true ∧ 268435456 < n - 40 * min (n / 40) 2 then none else arcsGo s r [min (n / 40) 2, n - 40 * min (n / 40) 2] 0)
    else if s = true ∧ 268435456 < n then none else arcsGo s r (l ++ [n]) 0 := by
  unfold dig7
  rw [dgl_app, arcsGo_dgl s 5 (n / 128) _ l (by omega) (by omega)]
  have e : n / 128 * 128 + n % 128 % 128 = n := by omega
  show arcsGo s (n % 128 :: r) l (n / 128) = _
  rw [arcsGo, e, if_neg (by omega), if_neg (by omega)]
theorem arcsGo_many (s : Bool) : ∀ (xs r l : List Nat), 0 < l.length → (∀ x ∈ xs, x ≤ 268435456) → arcsGo s (xs.flatMap dig7 ++ r) l 0 = arcsGo s r (l ++ xs) 0
  | [], r, l, h, hx => by simp
  | x :: xs, r, l, h, hx => by
    have hx1 := hx x (List.mem_cons_self ..)
    rw [List.flatMap_cons, List.append_assoc, arcsGo_dig7 s x _ l (by omega), if_neg (by omega), if_neg (by omega), arcsGo_many s xs r (l ++ [x]) (by simp) (fun y hy => hx y (List.mem_cons_of_mem _ hy))]
    simp

/-- The bytes of arcs. -/
def okArc (x : Int) : Bool := decide (0 ≤ x) && decide (x ≤ 268435456)
def oidN : List Int → Option (List Nat)
  | a :: b :: r => if 2 < a ∨ (a < 2 ∧ 39 < b) then none else if (a :: b :: r).all okArc then some (dig7 (40 * a + b).toNat ++ r.flatMap fun x => dig7 x.toNat) else none
  | _ => none
theorem oidN_two (a b : Int) (r : List Int) : oidN (a :: b :: r) = if 2 < a ∨ (a < 2 ∧ 39 < b) then none else if (a :: b :: r).all okArc then some (dig7 (40 * a + b).toNat ++ r.flatMap fun x => dig7 x.toNat) else none := rfl
def ArcsN (b : List Nat) : Option (List Nat) := arcsGo true b [] 0
def RefArcs (b : List Nat) : Option (List Nat) :=
  match arcsGo false b [] 0 with
  | some l => if (oidN (l.map fun (x : Nat) => (x : Int))).isSome then some l else none
  | none => none

/-- What was written is read. -/
theorem arcs_oid {l : List Int} {c : List Nat} (h : oidN l = some c) : ArcsN c = some (l.map Int.toNat) := by
  match l, h with
  | a :: b :: r, h =>
    rw [oidN_two] at h
    split at h
    · cases h
    rename_i h1
    split at h
    · rename_i h2
      injection h with h
      subst h
      rw [List.all_eq_true] at h2
      have hok : ∀ x ∈ a :: b :: r, 0 ≤ x ∧ x ≤ 268435456 := fun x hx => by have := h2 x hx; simpa [okArc] using this
      have ha := hok a (List.mem_cons_self ..)
      have hb := hok b (List.mem_cons_of_mem _ (List.mem_cons_self ..))
      have hr : ∀ x ∈ r, 0 ≤ x ∧ x ≤ 268435456 := fun x hx => hok x (List.mem_cons_of_mem _ (List.mem_cons_of_mem _ hx))
      unfold ArcsN
      rw [arcsGo_dig7 true _ _ [] (by omega), if_pos (show ([] : List Nat).length = 0 from rfl)]
      have e1 : min ((40 * a + b).toNat / 40) 2 = a.toNat := by omega
      have e2 : (40 * a + b).toNat - 40 * a.toNat = b.toNat := by omega
      rw [e1, e2, if_neg (by omega)]
      have e3 : (r.flatMap fun x => dig7 x.toNat) = (r.map Int.toNat).flatMap dig7 := by rw [List.flatMap_map]
      rw [e3]
      have := arcsGo_many true (r.map Int.toNat) [] [a.toNat, b.toNat] (by simp) (fun x hx => by
        obtain ⟨y, hy, rfl⟩ := List.mem_map.1 hx
        have := hr y hy
        omega)
      rw [List.append_nil] at this
      rw [this]
      simp [arcsGo]
    · cases h

theorem arcsGo_mem (s : Bool) : ∀ (b l : List Nat) (v : Nat) (l' : List Nat), arcsGo s b l v = some l' → ∃ r, l' = l ++ r
  | [], l, v, l', h => by
    unfold arcsGo at h
    injection h with h
    exact ⟨[], by simp [h]⟩
  | x :: b, l, v, l', h => by
    unfold arcsGo at h
    split at h
    · cases h
    split at h
    · exact arcsGo_mem s b l _ l' h
    split at h
    · rename_i h0
      have : l = [] := List.eq_nil_of_length_eq_zero h0
      subst this
      exact ⟨l', rfl⟩
    · split at h
      · cases h
      · obtain ⟨r, hr⟩ := arcsGo_mem s b _ _ l' h
        exact ⟨_, by rw [hr, List.append_assoc]⟩
def fits (l : List Nat) : Bool := l.all fun x => decide (x ≤ 268435456)
theorem fits_app (l m : List Nat) : fits (l ++ m) = (fits l && fits m) := by simp [fits]
theorem arcsGo_strict : ∀ (b l : List Nat) (v : Nat), fits l = true → arcsGo true b l v = match arcsGo false b l v with | some l' => if fits l' then some l' else none | none => none
  | [], l, v, h => by simp [arcsGo, h]
  | x :: b, l, v, h => by
    unfold arcsGo
    split
    · rfl
    split
    · exact arcsGo_strict b l _ h
    generalize v * 128 + x % 128 = n
    split
    · by_cases g : 268435456 < n - 40 * min (n / 40) 2
      · rw [if_pos ⟨rfl, g⟩, if_neg (by simp)]
        cases hh : arcsGo false b [min (n / 40) 2, n - 40 * min (n / 40) 2] 0 with
        | none => rfl
        | some l' =>
          obtain ⟨r, rfl⟩ := arcsGo_mem _ _ _ _ _ hh
          have : fits ([min (n / 40) 2, n - 40 * min (n / 40) 2] ++ r) = false := by
            rw [fits_app]
            have : fits [min (n / 40) 2, n - 40 * min (n / 40) 2] = false := by simp [fits]; omega
            rw [this]; rfl
          simp only [this]
          rfl
      · rw [if_neg (fun e => g e.2), if_neg (by simp)]
        exact arcsGo_strict b _ _ (by simp [fits]; omega)
    · by_cases g : 268435456 < n
      · rw [if_pos ⟨rfl, g⟩, if_neg (by simp)]
        cases hh : arcsGo false b (l ++ [n]) 0 with
        | none => rfl
        | some l' =>
          obtain ⟨r, rfl⟩ := arcsGo_mem _ _ _ _ _ hh
          have : fits (l ++ [n] ++ r) = false := by
            rw [fits_app, fits_app]
            have : fits [n] = false := by simp [fits]; omega
            rw [this]; simp
          simp only [this]
          rfl
      · rw [if_neg (fun e => g e.2), if_neg (by simp)]
        exact arcsGo_strict b _ _ (by rw [fits_app, h]; simp [fits]; omega)
theorem arcsGo_front : ∀ (b : List Nat) (v : Nat) (l' : List Nat), arcsGo false b [] v = some l' → (l' = [] ∧ ∀ x ∈ b, 128 ≤ x) ∨ ∃ n r, l' = min (n / 40) 2 :: (n - 40 * min (n / 40) 2) :: r
  | [], v, l', h => by
    unfold arcsGo at h
    injection h with h
    exact .inl ⟨h.symm, fun x hx => by cases hx⟩
  | x :: b, v, l', h => by
    unfold arcsGo at h
    split at h
    · cases h
    split at h
    · rename_i h1
      rcases arcsGo_front b _ l' h with ⟨h2, h3⟩ | h2
      · exact .inl ⟨h2, fun y hy => by
          rcases List.mem_cons.1 hy with e | e
          · omega
          · exact h3 y e⟩
      · exact .inr h2
    · rw [if_pos (show ([] : List Nat).length = 0 from rfl), if_neg (by simp)] at h
      obtain ⟨r, hr⟩ := arcsGo_mem _ _ _ _ _ h
      exact .inr ⟨_, r, hr⟩
theorem nameFrom_end : ∀ (b : List Nat) (beg : Bool), 0 < b.length → (∀ x ∈ b, 128 ≤ x) → nameFrom beg b = false
  | [], beg, h, _ => by simp at h
  | [x], beg, _, h => by
    have := h x (List.mem_cons_self ..)
    unfold nameFrom
    split
    · rfl
    · unfold nameFrom
      simp; omega
  | x :: y :: b, beg, _, h => by
    unfold nameFrom
    split
    · rfl
    · exact nameFrom_end (y :: b) _ (by simp) (fun z hz => h z (List.mem_cons_of_mem _ hz))
theorem arcs_ref {b : List Nat} (h : nameB b = true) : ArcsN b = RefArcs b := by
  unfold ArcsN RefArcs
  rw [arcsGo_strict b [] 0 rfl]
  cases hh : arcsGo false b [] 0 with
  | none => rfl
  | some l =>
    simp only
    rcases arcsGo_front b 0 l hh with ⟨_, h3⟩ | ⟨n, r, rfl⟩
    · unfold nameB at h
      rw [Bool.and_eq_true, decide_eq_true_eq] at h
      rw [nameFrom_end b true h.1 h3] at h
      cases h.2
    · have e : (oidN ((min (n / 40) 2 :: (n - 40 * min (n / 40) 2) :: r).map fun (x : Nat) => (x : Int))).isSome = fits (min (n / 40) 2 :: (n - 40 * min (n / 40) 2) :: r) := by
        rw [List.map_cons, List.map_cons, oidN_two, if_neg (by omega)]
        have : ((((min (n / 40) 2 : Nat) : Int) :: ((n - 40 * min (n / 40) 2 : Nat) : Int) :: r.map fun (x : Nat) => (x : Int)).all okArc) = fits (min (n / 40) 2 :: (n - 40 * min (n / 40) 2) :: r) := by
          have h1 : ∀ x : Nat, okArc (x : Int) = decide (x ≤ 268435456) := fun x => by
            unfold okArc
            rw [decide_eq_true (show (0 : Int) ≤ (x : Int) by omega), Bool.true_and]
            exact decide_eq_decide.2 (by omega)
          simp only [List.all_cons, fits, h1, List.all_map, Function.comp_def]
        rw [this]
        cases fits (min (n / 40) 2 :: (n - 40 * min (n / 40) 2) :: r) <;> simp
      rw [e]
/-- What is written may be. -/
theorem nameFrom_cons (g : Bool) (x : Nat) (r : List Nat) : nameFrom g (x :: r) = if g && decide (x = 128) then false else nameFrom (decide (x < 128)) r := rfl
theorem nameFrom_dgl : ∀ (f n : Nat) (acc : List Nat), 0 < n → n < 128 ^ f → nameFrom true (dgl f n acc) = nameFrom false acc
  | 0, n, acc, h, h2 => by
    exfalso
    have : n = 0 := by simpa using h2
    omega
  | f + 1, n, acc, h, h2 => by
    unfold dgl
    rw [if_neg (by omega)]
    rcases Nat.eq_zero_or_pos (n / 128) with h0 | h0
    · rw [dgl_small _ _ _ h0]
      rw [nameFrom_cons]
      have e1 : decide (128 + n % 128 = 128) = false := decide_eq_false (by omega)
      have e2 : decide (128 + n % 128 < 128) = false := decide_eq_false (by omega)
      rw [e1, e2]
      rfl
    · rw [nameFrom_dgl f (n / 128) _ h0 (by rw [Nat.pow_succ] at h2; omega)]
      rw [nameFrom_cons]
      have e2 : decide (128 + n % 128 < 128) = false := decide_eq_false (by omega)
      rw [e2]
      rfl
theorem nameFrom_dig7 (n : Nat) (r : List Nat) (h : n ≤ 268435536) : nameFrom true (dig7 n ++ r) = nameFrom true r := by
  unfold dig7
  rw [dgl_app]
  rcases Nat.eq_zero_or_pos (n / 128) with h0 | h0
  · rw [dgl_small _ _ _ h0]
    show nameFrom true (n % 128 :: r) = _
    rw [nameFrom_cons]
    have e1 : decide (n % 128 = 128) = false := decide_eq_false (by omega)
    have e2 : decide (n % 128 < 128) = true := decide_eq_true (by omega)
    rw [e1, e2]
    rfl
  · rw [nameFrom_dgl 5 (n / 128) _ h0 (by omega)]
    show nameFrom false (n % 128 :: r) = _
    rw [nameFrom_cons]
    have e2 : decide (n % 128 < 128) = true := decide_eq_true (by omega)
    rw [e2]
    rfl
theorem nameFrom_many : ∀ (xs : List Nat), (∀ x ∈ xs, x ≤ 268435456) → nameFrom true (xs.flatMap dig7) = true
  | [], _ => rfl
  | x :: xs, h => by
    rw [List.flatMap_cons, nameFrom_dig7 x _ (by have := h x (List.mem_cons_self ..); omega)]
    exact nameFrom_many xs (fun y hy => h y (List.mem_cons_of_mem _ hy))
theorem flat_len : ∀ (xs : List Nat), (xs.flatMap dig7).length ≤ 6 * xs.length
  | [] => by simp
  | x :: xs => by
    rw [List.flatMap_cons, List.length_append, List.length_cons]
    have := flat_len xs
    have := (dig7_len x).1
    omega
theorem flat_dig : ∀ (xs : List Nat), Dig 256 (xs.flatMap dig7)
  | [] => Dig.nil
  | x :: xs => by
    rw [List.flatMap_cons]
    exact Dig.app.2 ⟨dig7_dig x, flat_dig xs⟩
theorem oid_name {l : List Int} {c : List Nat} (h : oidN l = some c) : nameB c = true ∧ Dig 256 c ∧ c.length ≤ 6 * l.length := by
  match l, h with
  | a :: b :: r, h =>
    rw [oidN_two] at h
    split at h
    · cases h
    rename_i h1
    split at h
    · rename_i h2
      injection h with h
      subst h
      rw [List.all_eq_true] at h2
      have hok : ∀ x ∈ a :: b :: r, 0 ≤ x ∧ x ≤ 268435456 := fun x hx => by have := h2 x hx; simpa [okArc] using this
      have ha := hok a (List.mem_cons_self ..)
      have hb := hok b (List.mem_cons_of_mem _ (List.mem_cons_self ..))
      have hr : ∀ x ∈ r.map Int.toNat, x ≤ 268435456 := fun x hx => by
        obtain ⟨y, hy, rfl⟩ := List.mem_map.1 hx
        have := hok y (List.mem_cons_of_mem _ (List.mem_cons_of_mem _ hy))
        omega
      have e3 : (r.flatMap fun x => dig7 x.toNat) = (r.map Int.toNat).flatMap dig7 := by rw [List.flatMap_map]
      rw [e3]
      have hl := dig7_len (40 * a + b).toNat
      have hf := flat_len (r.map Int.toNat)
      refine ⟨?_, Dig.app.2 ⟨dig7_dig _, flat_dig _⟩, ?_⟩
      · unfold nameB
        rw [nameFrom_dig7 _ _ (by omega), nameFrom_many _ hr, Bool.and_true, decide_eq_true_eq, List.length_append]
        omega
      · rw [List.length_append]
        simp only [List.length_map, List.length_cons] at hf ⊢
        omega
    · cases h
end Go.Proofs.Ytanelmmklnpohaa
