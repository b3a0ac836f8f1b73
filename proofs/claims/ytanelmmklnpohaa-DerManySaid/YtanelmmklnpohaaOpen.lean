/-
  What came in, in the words of the walks: rows of integers, nodes.
  Conditions: none; lemmas alone.
-/
import Derived.Test.YtanelmmklnpohaaRows
import Derived.Test.YtanelmmklnpohaaDer19
import Derived.ProofKit
import Derived.OpenShut
import Derived.ShutString
import Derived.ChangeOld
import Derived.Below
import Derived.Deep.Slices
namespace Go.Proofs.Ytanelmmklnpohaa
open Go.ChangeShapes Go.WideShapes Go.ChangeAt Go.RowKit
set_option linter.unusedVariables false
set_option linter.unusedSimpArgs false

theorem open_knob : ownKnob Try.prog.godebug = none := by kernel_rfl
theorem open_laid : laidOutB Try.prog = true := by kernel_rfl

/-- What the walk is told of a slice of integers that came in. -/
def InRow (k : IntKind) (w : World) (a : Option Addr) (len cap : Nat) (zs : List Int) : Prop :=
  (a = none ∧ len = 0 ∧ cap = 0 ∧ zs = []) ∨
  ∃ x, a = some x ∧ len ≤ cap ∧ cap ≤ maxLen ∧ len ≤ zs.length ∧ (∀ i, i < zs.length → w.cell? (x.add i) = some (.int k (zs.getD i 0))) ∧ ∀ n ∈ zs, (Lit.int k n).wf = true

theorem inrow_ints {k : IntKind} {w : World} {a : Option Addr} {len cap : Nat} {zs : List Int} (h : InRow k w a len cap zs) :
    ∃ l : List Int, len = l.length ∧ l.length ≤ cap ∧ cap ≤ maxLen ∧ (∀ x ∈ l, (Lit.int k x).wf = true) ∧ Rd w 0 w.heap.size a (l.map (.int k)) := by
  rcases h with ⟨rfl, rfl, rfl, rfl⟩ | ⟨x, rfl, h1, h2, h3, h4, h5⟩
  · exact ⟨[], rfl, by simp, by simp, by simp, Rd.nil⟩
  · have hlen : (zs.take len).length = len := by rw [List.length_take]; omega
    refine ⟨zs.take len, hlen.symm, by rw [hlen]; exact h1, h2, fun y hy => h5 y (List.mem_of_mem_take hy), fun hp => ?_⟩
    have hpos : 0 < len := by rw [List.length_map, hlen] at hp; exact hp
    obtain ⟨b, off, spot⟩ := x
    have hc := h4 0 (by omega)
    have hspot : spot = none := by simpa [Addr.add] using World.cell?_spot hc
    subst hspot
    have hlt : b < w.heap.size := World.block_lt_of_cell? w ⟨b, off + 0, none⟩ (by rw [← add_plain]; exact hc)
    refine ⟨b, off, rfl, Nat.zero_le _, hlt, fun j hj => ?_⟩
    rw [List.length_map, hlen] at hj
    rw [← add_plain, h4 j (by omega), List.getElem?_map, List.getElem?_take, if_pos hj]
    have hjz : j < zs.length := by omega
    simp [hjz]
theorem inrow_nums {k : IntKind} {m : Nat} (hk : ∀ x : Int, (Lit.int k x).wf = true → 0 ≤ x ∧ x < (m : Int)) {w : World} {a : Option Addr} {len cap : Nat} {zs : List Int} (h : InRow k w a len cap zs) :
    ∃ l : List Nat, len = l.length ∧ l.length ≤ cap ∧ cap ≤ maxLen ∧ Dig m l ∧ Rd w 0 w.heap.size a (nums k l) := by
  obtain ⟨l, h1, h2, h3, h4, h5⟩ := inrow_ints h
  have e : nums k (l.map Int.toNat) = l.map (.int k) := by
    unfold nums
    rw [List.map_map]
    apply List.map_congr_left
    intro x hx
    have := hk x (h4 x hx)
    simp only [Function.comp]
    rw [Int.toNat_of_nonneg this.1]
  refine ⟨l.map Int.toNat, by rw [List.length_map]; exact h1, by rw [List.length_map]; exact h2, h3, fun y hy => ?_, by rw [e]; exact h5⟩
  obtain ⟨x, hx, rfl⟩ := List.mem_map.1 hy
  have := hk x (h4 x hx)
  omega
theorem wf_u8 (x : Int) (h : (Lit.int .u8 x).wf = true) : 0 ≤ x ∧ x < ((256 : Nat) : Int) := by
  have hb := range_u8 (zs := [x]) (by simpa using h) 0
  simpa using (show 0 ≤ x ∧ x < 256 by simp at hb; omega)
theorem wf_u64 (x : Int) (h : (Lit.int .u64 x).wf = true) : 0 ≤ x ∧ x < ((2 ^ 64 : Nat) : Int) := by
  have hb := range_u64 (zs := [x]) (by simpa using h) 0
  simpa using (show 0 ≤ x ∧ x < 18446744073709551616 by simp at hb; omega)

section
variable {H : Type} {enc : TypeId × Value → H} {w : World} {base : Nat} {spare : Nat → Bool} {held : Bool}
theorem open_row {t e : TypeId} {k : IntKind} {fuel : Nat} {v : Value} {x : DataW H × List MemPlace} (ht : Try.prog.underlying t = some (.slice e)) (he : Try.prog.underlying e = some (.int k)) (hc : Try.prog.cellsOf e = 1)
    (h : DataW.trod enc Try.prog w base spare held fuel t [v] = some x) : ∃ a len cap zs, v = .slice a len cap ∧ InRow k w a len cap zs := by
  rcases open_ints ht he hc h with ⟨hcs, _⟩ | ⟨a, l, c, zs, hcs, _, hl, hm, hz, _, hcell, hwz⟩
  · injection hcs with hcs
    exact ⟨none, 0, 0, [], hcs, .inl ⟨rfl, rfl, rfl, rfl⟩⟩
  · injection hcs with hcs
    exact ⟨some a, l, c, zs, hcs, .inr ⟨a, rfl, hl, hm, by rw [hz]; split <;> omega, hcell, hwz⟩⟩

theorem node_size : Try.prog.cellsOf 25 = 3 := by kernel_rfl
theorem int_size : Try.prog.cellsOf 3 = 1 := by kernel_rfl
theorem bytes_size : Try.prog.cellsOf 22 = 1 := by kernel_rfl
theorem nodes_size : Try.prog.cellsOf 23 = 1 := by kernel_rfl
theorem byte_size : Try.prog.cellsOf 5 = 1 := by kernel_rfl
/-- A node that is read: its number, its bytes, its kids. -/
theorem trod_node {fuel : Nat} {cs : List Value} {x : DataW H × List MemPlace} (h : DataW.trod enc Try.prog w base spare held fuel 25 cs = some x) :
    ∃ t A nb c v2 n y, cs = [.int .i64 t, .slice A nb c, v2] ∧ (∃ l : List Nat, nb = l.length ∧ l.length ≤ c ∧ c ≤ maxLen ∧ Dig 256 l ∧ Rd w 0 w.heap.size A (nums .u8 l)) ∧
      DataW.trod enc Try.prog w base spare held n 23 [v2] = some y := by
  obtain ⟨xs, n, _, _, hcl, hxl, hf⟩ := DataW.trod_struct Try.underlying25 h
  rw [node_size] at hcl
  match cs, hcl, xs, hxl with
  | [c0, c1, c2], _, [y0, y1, y2], _ =>
    have h0 := hf 0 _ rfl
    have h1 := hf 1 _ rfl
    have h2 := hf 2 _ rfl
    simp only [int_size, bytes_size, nodes_size, List.drop_zero, List.drop_succ_cons, List.take_succ_cons, List.take_zero, List.getElem?_cons_zero, List.getElem?_cons_succ] at h0 h1 h2
    obtain ⟨t, e0, _, _⟩ := DataW.trod_int Try.underlying3 h0
    injection e0 with e0
    obtain ⟨A, nb, c, zs, rfl, hr⟩ := open_row Try.underlying22 Try.underlying5 byte_size h1
    exact ⟨t, A, nb, c, c2, n, y2, by rw [e0], inrow_nums wf_u8 hr, h2⟩
theorem trod_in : ∀ (m fuel : Nat) (cs : List Value) (x : DataW H × List MemPlace), DataW.trod enc Try.prog w base spare held fuel 25 cs = some x → InN w w.heap.size m cs := by
  intro m
  induction m with
  | zero =>
    intro fuel cs x h
    obtain ⟨t, A, nb, c, v2, n, y, rfl, ⟨l, rfl, h1, h2, h3, h4⟩, hk⟩ := trod_node h
    unfold InN
    rcases Deep.open_slice Try.underlying23 hk with ⟨e, _⟩ | ⟨a, len, cap, mm, n', D, Pl, e, _, hl, hm, _, _, _⟩
    · injection e with e
      subst e
      exact ⟨t, A, l.length, c, none, 0, 0, rfl, l, rfl, h1, h2, h3, h4, Nat.le_refl _, by simp⟩
    · injection e with e
      subst e
      exact ⟨t, A, l.length, c, some a, len, cap, rfl, l, rfl, h1, h2, h3, h4, hl, hm⟩
  | succ m ih =>
    intro fuel cs x h
    obtain ⟨t, A, nb, c, v2, n, y, rfl, ⟨l, rfl, h1, h2, h3, h4⟩, hk⟩ := trod_node h
    unfold InN
    rcases Deep.open_slice Try.underlying23 hk with ⟨e, _⟩ | ⟨a, len, cap, mm, n', D, Pl, e, _, hl, hm, hmm, _, hi⟩
    · injection e with e
      subst e
      exact ⟨t, A, l.length, c, none, 0, 0, rfl, ⟨l, rfl, h1, h2, h3, h4, Nat.le_refl _, by simp⟩, fun hn => absurd hn (by omega)⟩
    · injection e with e
      subst e
      refine ⟨t, A, l.length, c, some a, len, cap, rfl, ⟨l, rfl, h1, h2, h3, h4, hl, hm⟩, fun hn => ?_⟩
      have hmm' : len ≤ mm := by rw [hmm]; split <;> omega
      have each : ∀ i, i < len → ∃ v0 v1 v2, w.cell? (a.add (i * 3)) = some v0 ∧ w.cell? ((a.add (i * 3)).add 1) = some v1 ∧ w.cell? ((a.add (i * 3)).add 2) = some v2 ∧ InN w w.heap.size m [v0, v1, v2] := fun i hil => by
        obtain ⟨cs', hc, ht⟩ := hi i (by omega)
        rw [node_size] at hc
        obtain ⟨_, hcl, hat⟩ := World.cells?_some hc
        match cs', hcl with
        | [v0, v1, v2], _ =>
          have a0 := hat 0 (by omega)
          have a1 := hat 1 (by omega)
          have a2 := hat 2 (by omega)
          refine ⟨v0, v1, v2, ?_, a1, a2, ih _ _ _ ht⟩
          have e0 : (a.add (i * 3)).add 0 = a.add (i * 3) := by unfold Addr.add; simp
          rw [e0] at a0
          exact a0
      obtain ⟨b, off, spot⟩ := a
      obtain ⟨u0, _, _, hc0, _⟩ := each 0 (by omega)
      have hspot : spot = none := by simpa [Addr.add] using World.cell?_spot hc0
      subst hspot
      rw [add_plain] at hc0
      refine ⟨b, off, rfl, World.block_lt_of_cell? w _ hc0, fun i hil => ?_⟩
      obtain ⟨v0, v1, v2, g0, g1, g2, g3⟩ := each i hil
      rw [add_plain] at g0 g1 g2
      rw [add_plain] at g1 g2
      exact ⟨v0, v1, v2, g0, g1, g2, g3⟩
end
end Go.Proofs.Ytanelmmklnpohaa
