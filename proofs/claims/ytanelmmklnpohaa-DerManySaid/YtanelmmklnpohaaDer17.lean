/-
  Walks of the laws' small helpers: Short, Cut; of der: Walk (only that it is a function).
  Conditions: none beyond the walks' own.
-/
import Derived.Test.YtanelmmklnpohaaDer16
namespace Go.Proofs.Ytanelmmklnpohaa
open Go.RowKit
set_option linter.unusedVariables false
set_option linter.unusedSimpArgs false

theorem der_Walk (t : Int) (A : Option Addr) (n1 c : Nat) (A' : Option Addr) (n2 c' : Nat) (w : World) :
    Calls Try.prog 28 #[.agg #[.int .i64 t, .slice A n1 c, .slice A' n2 c']] w fun e w' =>
      (∃ f : FuncId, e = .returned (.func (.func f) #[] #[.pointer (some ⟨w.heap.size, 0, none⟩)])) ∧ w' = w.alloc (.cells #[.int .i64 t, .slice A n1 c, .slice A' n2 c'] 25) := by
  go_enter Try.func28, Try.ntmps28
  go_wp2
  go_ret
  exact ⟨⟨_, rfl⟩, rfl⟩

theorem law_Short (l : List Nat) (N : Int) (m : Nat) (hN : N = (m : Int)) (A : Option Addr) (n c L B : Nat) (w : World) (hn : n = l.length) (hc : n ≤ c) (h : Rd w L B A (nums .u8 l)) :
    Calls Try.prog 13 #[.slice A n c, .int .i64 N] w fun e w' => e = .returned (.slice A (min n m) c) ∧ w = w' := by
  subst hN
  by_cases g : m < n
  · have d1 : decide ((m : Int) < (n : Int)) = true := decide_eq_true (by omega)
    have e1 : min n m = m := by omega
    have hmc : (m : Int) ≤ (c : Int) := by omega
    rw [e1]
    go_enter Try.func13, Try.ntmps13
    go_wp2
    go_ret
    exact ⟨rfl, rfl⟩
  · have d1 : decide ((m : Int) < (n : Int)) = false := decide_eq_false (by omega)
    have e1 : min n m = n := by omega
    rw [e1]
    go_enter Try.func13, Try.ntmps13
    go_wp2
    go_ret
    exact ⟨rfl, rfl⟩
/-- Cut gives the lowest limbs, in a row of its own. -/
theorem law_Cut {w : World} {L B v : Nat} {V : Value} (N : Int) (m : Nat) (hN : N = (m : Int)) (xs : List Nat) (A : Option Addr) (n c : Nat) (hn : n = xs.length) (hc : n ≤ c) (hm : m ≤ 1048576) (h : Rd w L B A (nums .u64 xs)) :
    Calls Try.prog 17 #[.slice A n c, .int .i64 N] w (Rets fun V w' => w'.ownsRow w.heap.size 57 1 V (min n m) (nums .u64 (xs.take m)) ∧ Below w.heap.size w w') := by
  subst hN
  have H := Lib.hid h
  clear h
  by_cases g : n < m
  · have d1 : decide ((n : Int) < (m : Int)) = true := decide_eq_true (by omega)
    have e1 : min n m = n := by omega
    have e2 : xs.take m = xs.take n := by rw [List.take_of_length_le (by omega), List.take_of_length_le (by omega)]
    rw [e1, e2]
    have HN := Lib.hid hn
    have G := Lib.hid g
    clear hn g
    go_enter Try.func17, Try.ntmps17
    go_wp2_with (first
      | (at_builtin
         refine wpList_append_rd _ rfl (.const (.slice none 0 0)) (.tmp 13) _ rfl w.heap.size 57 (.int .u64 0) 1 8 Try.underlying38 info_u64 rfl (by omega) (.slice none 0 0) 0 [] rfl (World.ownsRow_nil _ _ _ _)
           L B A n c (nums .u64 (xs.take n)) rfl (by rw [nums_length, List.length_take, Nat.mul_one]; have := HN.out; have := G.out; omega) (by rw [nums_take]; exact H.out.take _) (nums_one _ _) (by simp only [maxLen]; omega) (by omega) (Nat.le_refl _) ?_
         intro v3 w3 hown3 hg3 hat3 hnil3
         rw [Nat.zero_add, List.nil_append] at hown3
         have HO3 := Lib.hid hown3
         have HG3 := Lib.hid hg3
         clear hown3 hg3 hat3 hnil3))
    go_ret
    exact Rets.mk ⟨HO3.out, (Below.refl _ _).grown HG3.out (Nat.le_refl _) (fun g e => by simp [Value.ownBlock] at e)⟩
  · have d1 : decide ((n : Int) < (m : Int)) = false := decide_eq_false (by omega)
    have e1 : min n m = m := by omega
    have hmc : (m : Int) ≤ (c : Int) := by omega
    rw [e1]
    have HN := Lib.hid hn
    have G := Lib.hid g
    clear hn g
    go_enter Try.func17, Try.ntmps17
    go_wp2_with (first
      | (at_builtin
         refine wpList_append_rd _ rfl (.const (.slice none 0 0)) (.tmp 13) _ rfl w.heap.size 57 (.int .u64 0) 1 8 Try.underlying38 info_u64 rfl (by omega) (.slice none 0 0) 0 [] rfl (World.ownsRow_nil _ _ _ _)
           L B A m c (nums .u64 (xs.take m)) rfl (by rw [nums_length, List.length_take, Nat.mul_one]; have := HN.out; have := G.out; omega) (by rw [nums_take]; exact H.out.take _) (nums_one _ _) (by simp only [maxLen]; omega) (by omega) (Nat.le_refl _) ?_
         intro v3 w3 hown3 hg3 hat3 hnil3
         rw [Nat.zero_add, List.nil_append] at hown3
         have HO3 := Lib.hid hown3
         have HG3 := Lib.hid hg3
         clear hown3 hg3 hat3 hnil3))
    go_ret
    exact Rets.mk ⟨HO3.out, (Below.refl _ _).grown HG3.out (Nat.le_refl _) (fun g e => by simp [Value.ownBlock] at e)⟩
end Go.Proofs.Ytanelmmklnpohaa
