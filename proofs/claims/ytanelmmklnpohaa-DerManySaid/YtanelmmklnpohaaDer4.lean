/-
  Walks of the package der: Write; of its reference: content, count, May.
  Conditions: none beyond the walks' own.
-/
import Derived.Test.YtanelmmklnpohaaDer3
namespace Go.Proofs.Ytanelmmklnpohaa
open Go.RowKit
set_option linter.unusedVariables false
set_option linter.unusedSimpArgs false

/-- Bytes and whether there are any: what Write gives. -/
def BytesOk (w : World) (r : Option (List Nat)) (e : Ending) (w' : World) : Prop :=
  ∃ A c, e = .returned (.tuple #[.slice A (r.getD []).length c, .bool r.isSome]) ∧ (r.getD []).length ≤ c ∧ c ≤ maxLen ∧ (r.getD []).length ≤ 65536 ∧ Rd w' w.heap.size w'.heap.size A (nums .u8 (r.getD [])) ∧ Below w.heap.size w w'
theorem BytesOk.no {w w' : World} {r : Option (List Nat)} (h : r = none) (hb : Below w.heap.size w w') : BytesOk w r (.returned (.tuple #[.slice none 0 0, .bool false])) w' := by
  subst h
  exact ⟨none, 0, rfl, by simp, by simp [maxLen], by simp, Rd.nil, hb⟩
theorem BytesOk.yes {w w' : World} {r : Option (List Nat)} {A : Option Addr} {k c L : Nat} {l : List Nat} (h : r = some l) (hk : k = l.length) (hc : l.length ≤ c) (hm : c ≤ maxLen) (hl : l.length ≤ 65536) (hr : Rd w' L w'.heap.size A (nums .u8 l)) (hL : w.heap.size ≤ L) (hb : Below w.heap.size w w') :
    BytesOk w r (.returned (.tuple #[.slice A k c, .bool true])) w' := by
  subst h hk
  exact ⟨A, c, rfl, hc, hm, hl, hr.wide hL (Nat.le_refl _), hb⟩
theorem box_node {w : World} {L B : Nat} {n : Nd} {cs : List Value} (h : RepN w L B n cs) : ∃ t A n1 c A' n2 c', cs = [.int .i64 t, .slice A n1 c, .slice A' n2 c'] := by
  cases n
  unfold RepN at h
  obtain ⟨A, c, A', c', e, _⟩ := h
  exact ⟨_, _, _, _, _, _, _, e⟩

set_option maxHeartbeats 1000000 in
theorem der_Write {n : Nd} {cs : List Value} {L B : Nat} {w : World} (h : RepN w L B n cs) (hB : B ≤ w.heap.size) :
    Calls Try.prog 9 #[.agg cs.toArray] w (BytesOk w (WriteN n)) := by
  have H := Lib.hid h
  obtain ⟨t, A, n1, c, A', n2, c', rfl⟩ := box_node h
  clear h
  have HA := Lib.hid ((Below.refl w.heap.size w).alloc (Nat.le_refl _) (.cells #[.int .i64 t, .slice A n1 c, .slice A' n2 c'] 25))
  have HC0 : (w.alloc (.cells #[.int .i64 t, .slice A n1 c, .slice A' n2 c'] 25)).cell? ⟨w.heap.size, 0, none⟩ = some (.int .i64 t) := by rw [World.cell?_alloc_at _ _ _ _ rfl]; rfl
  have HC1 : (w.alloc (.cells #[.int .i64 t, .slice A n1 c, .slice A' n2 c'] 25)).cell? ⟨w.heap.size, 1, none⟩ = some (.slice A n1 c) := by rw [World.cell?_alloc_at _ _ _ _ rfl]; rfl
  have HC2 : (w.alloc (.cells #[.int .i64 t, .slice A n1 c, .slice A' n2 c'] 25)).cell? ⟨w.heap.size, 2, none⟩ = some (.slice A' n2 c') := by rw [World.cell?_alloc_at _ _ _ _ rfl]; rfl
  have HH := Lib.hid (H.out.alloc hB (.cells #[.int .i64 t, .slice A n1 c, .slice A' n2 c'] 25))
  have hsz : (w.alloc (.cells #[.int .i64 t, .slice A n1 c, .slice A' n2 c'] 25)).heap.size = w.heap.size + 1 := by simp
  go_enter Try.func9, Try.ntmps9
  go_wp2_with fail
  generalize w.alloc (.cells #[.int .i64 t, .slice A n1 c, .slice A' n2 c'] 25) = W1 at HA HC0 HC1 HC2 HH hsz ⊢
  have S1 := Lib.hid hsz
  have hBW : B ≤ W1.heap.size := by omega
  have hwW : w.heap.size < W1.heap.size := by omega
  clear hsz H
  refine Calls.mono (der_May HH.out hBW) ?_
  rintro e w2 ⟨rfl, hb2⟩
  have c0 := (hb2.cell (p := ⟨w.heap.size, 0, none⟩) hwW).trans HC0
  have c1 := (hb2.cell (p := ⟨w.heap.size, 1, none⟩) hwW).trans HC1
  have c2 := (hb2.cell (p := ⟨w.heap.size, 2, none⟩) hwW).trans HC2
  have HH2 := Lib.hid (HH.out.below hb2 hBW)
  have HB2 := Lib.hid (below_then HA.out (by omega) hb2)
  have S2 := Lib.hid hb2.size
  clear HC0 HC1 HC2 hb2
  cases hm : MayN n with
  | false =>
    have HW := Lib.hid (show WriteN n = none by unfold WriteN; rw [hm]; rfl)
    clear hm
    go_wp2
    go_ret2
    exact BytesOk.no HW.out HB2.out
  | true =>
    have HW := Lib.hid (show WriteN n = writeN n by unfold WriteN; rw [hm]; rfl)
    have HOK := Lib.hid (ok_of_may hm).1
    clear hm
    go_wp2_with fail
    refine Calls.mono (der_write _ n [.int .i64 t, .slice A n1 c, .slice A' n2 c'] L B _ (Nat.le_refl _) HOK.out HH2.out (by have := S2.out; omega)) ?_
    rintro e w3 ⟨V3, b3, rfl, hb3, hyes, hno⟩
    have HB3 := Lib.hid (below_then HB2.out HB2.out.size hb3)
    have S3 := Lib.hid HB2.out.size
    clear hb3
    cases hw : writeN n with
    | none =>
      obtain rfl := hno hw
      have HW2 := Lib.hid (HW.out.trans hw)
      clear hw hyes hno
      go_wp2
      go_ret2
      exact BytesOk.no HW2.out HB3.out
    | some x =>
      obtain ⟨rfl, hox, hxl⟩ := hyes x hw
      obtain ⟨Ax, cx, hVx, hcx, hmx⟩ := own_form hox
      subst hVx
      have HR := Lib.hid (own_rd hox)
      have HW2 := Lib.hid (HW.out.trans hw)
      clear hw hyes hno hox
      go_wp2
      go_ret2
      exact BytesOk.yes HW2.out rfl hcx hmx hxl HR.out S3.out HB3.out
end Go.Proofs.Ytanelmmklnpohaa
