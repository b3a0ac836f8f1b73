/-
  Rows of nodes that a call makes: what is kept, what one more kid is, what the row is worth in a node.
  Conditions: none; lemmas alone.
-/
import Derived.Test.YtanelmmklnpohaaDer7
namespace Go.Proofs.Ytanelmmklnpohaa
open Go.RowKit
set_option linter.unusedVariables false
set_option linter.unusedSimpArgs false

/-- The cells of a row of kids; each kid lies in blocks from lo on, not in the row's own block. -/
def KidsOk (w : World) (lo : Nat) (gb : Option Nat) : List Nd → List Value → Prop
  | [], cs => cs = []
  | k :: r, cs => ∃ c3 rest, cs = c3 ++ rest ∧ c3.length = 3 ∧ (∃ L B, lo ≤ L ∧ B ≤ w.heap.size ∧ (∀ g, gb = some g → g < L ∨ B ≤ g) ∧ RepN w L B k c3) ∧ KidsOk w lo gb r rest
theorem KidsOk.length {w : World} {lo : Nat} {gb : Option Nat} : ∀ {ks : List Nd} {cs : List Value}, KidsOk w lo gb ks cs → cs.length = ks.length * 3
  | [], cs, h => by unfold KidsOk at h; subst h; rfl
  | k :: r, cs, h => by
    unfold KidsOk at h
    obtain ⟨c3, rest, rfl, h3, _, hr⟩ := h
    rw [List.length_append, h3, hr.length, List.length_cons]
    omega
theorem KidsOk.keep {w w' : World} {lo : Nat} {gb gb' : Option Nat} (hs : w.heap.size ≤ w'.heap.size) (hk : ∀ p : Addr, lo ≤ p.block → p.block < w.heap.size → gb ≠ some p.block → w'.cell? p = w.cell? p)
    (hg : ∀ g, gb' = some g → gb = some g ∨ w.heap.size ≤ g ∨ g < lo) : ∀ {ks : List Nd} {cs : List Value}, KidsOk w lo gb ks cs → KidsOk w' lo gb' ks cs
  | [], cs, h => by unfold KidsOk at h ⊢; exact h
  | k :: r, cs, h => by
    unfold KidsOk at h ⊢
    obtain ⟨c3, rest, e, h3, ⟨L, B, h1, h2, h4, h5⟩, hr⟩ := h
    refine ⟨c3, rest, e, h3, ⟨L, B, h1, by omega, fun g e => ?_, ?_⟩, KidsOk.keep hs hk hg hr⟩
    · rcases hg g e with h | h | h
      · exact h4 g h
      · omega
      · omega
    · exact RepN.keep (fun p p1 p2 => hk p (by omega) (by omega) (fun e => by have := h4 _ e; omega)) h5
theorem KidsOk.snoc {w : World} {lo : Nat} {gb : Option Nat} {k : Nd} {c3 : List Value} (hc : c3.length = 3) (hk : ∃ L B, lo ≤ L ∧ B ≤ w.heap.size ∧ (∀ g, gb = some g → g < L ∨ B ≤ g) ∧ RepN w L B k c3) : ∀ {ks : List Nd} {cs : List Value}, KidsOk w lo gb ks cs → KidsOk w lo gb (ks ++ [k]) (cs ++ c3)
  | [], cs, h => by
    unfold KidsOk at h
    subst h
    exact ⟨c3, [], by simp, hc, hk, rfl⟩
  | k' :: r, cs, h => by
    unfold KidsOk at h
    obtain ⟨d3, rest, rfl, h3, h4, hr⟩ := h
    exact ⟨d3, rest ++ c3, by simp, h3, h4, KidsOk.snoc hc hk hr⟩
theorem KidsOk.reps {w : World} {lo L g : Nat} {gb : Option Nat} (hL : L ≤ lo) : ∀ {ks : List Nd} {cs : List Value} {off : Nat}, KidsOk w lo gb ks cs → (∀ j u, cs[j]? = some u → w.cell? ⟨g, off + j, none⟩ = some u) → RepKs w L w.heap.size g off ks
  | [], cs, off, _, _ => by unfold RepKs; trivial
  | k :: r, cs, off, h, hc => by
    unfold KidsOk at h
    obtain ⟨c3, rest, rfl, h3, ⟨L', B, h1, h2, h4, h5⟩, hr⟩ := h
    unfold RepKs
    obtain ⟨v0, v1, v2, rfl⟩ : ∃ v0 v1 v2, c3 = [v0, v1, v2] := by
      match c3, h3 with
      | [v0, v1, v2], _ => exact ⟨v0, v1, v2, rfl⟩
    refine ⟨⟨v0, v1, v2, by simpa using hc 0 v0 rfl, hc 1 v1 rfl, hc 2 v2 rfl, RepN.wide (by omega) h2 h5⟩, KidsOk.reps hL hr fun j u hu => ?_⟩
    have := hc (j + 3) u (by simpa using hu)
    rwa [show off + (j + 3) = off + 3 + j from by omega] at this
/-- A node whose kids are such a row. -/
theorem RepN.of_kids {w : World} {lo base L c' : Nat} {A' : Option Addr} {t : Int} {b : List Nat} {ks : List Nd} {cs : List Value} {A : Option Addr} {c : Nat} (hL : L ≤ lo) (hbase : L ≤ base) (hk : KidsOk w lo (Value.slice A' ks.length c').ownBlock ks cs)
    (ho : w.ownsRow base 25 3 (.slice A' ks.length c') ks.length cs) (hkl : ks.length ≤ 1048576)
    (h1 : b.length ≤ c) (h2 : c ≤ maxLen) (h3 : b.length ≤ 1048576) (h4 : t = 48 → b = [] → A = none ∧ c = 0) (h5 : Dig 256 b) (h6 : Rd w L w.heap.size A (nums .u8 b)) :
    RepN w L w.heap.size (.mk t b ks) [.int .i64 t, .slice A b.length c, .slice A' ks.length c'] := by
  obtain ⟨A2, c2, e2, hc2, hm2⟩ := own_form ho
  injection e2 with e3 e4 e5
  subst e3 e5
  unfold RepN
  refine ⟨A, c, A', c', rfl, h1, h2, hc2, hm2, ⟨h3, hkl⟩, h4, h5, h6, fun hp => ?_⟩
  obtain ⟨g, cap, hv, hb, hlt⟩ := ho.form hp
  injection hv with hA hn hc
  subst hA
  refine ⟨g, 0, rfl, by omega, hlt, KidsOk.reps hL hk fun j u hu => ?_⟩
  have := ho.cells (g := g) rfl j u hu
  rwa [add_plain] at this
theorem RepN.one {w : World} {L B : Nat} {n : Nd} {cs : List Value} (h : RepN w L B n cs) : cs.length = 3 ∧ ∀ u ∈ cs, u.oneCell' = true := by
  obtain ⟨t, A, n1, c, A', n2, c', rfl⟩ := box_node h
  refine ⟨rfl, fun u hu => ?_⟩
  simp only [List.mem_cons, List.not_mem_nil, or_false] at hu
  rcases hu with rfl | rfl | rfl <;> rfl
theorem info_node : (Try.prog.info? 25).map (fun i => (i.zero, i.size, i.bytes)) = some (some (.agg #[.int .i64 0, .slice none 0 0, .slice none 0 0]), 3, 56) := by kernel_rfl
/-- Writes to one number's cell, and new blocks: KidsOk is kept. -/
theorem KidsOk.grown {w w' : World} {lo pb : Nat} {gb : Option Nat} {ks : List Nd} {cs : List Value} (h : KidsOk w lo gb ks cs) (hg : w.grownBy w' (some pb)) (hp : pb < lo) : KidsOk w' lo gb ks cs :=
  h.keep hg.size (fun p p1 p2 _ => World.cell?_of_block (hg.block p.block p2 (fun e => by injection e with e; omega))) (fun g e => .inl e)
end Go.Proofs.Ytanelmmklnpohaa
