/-
  Walks of the package der: node.
  Conditions: none beyond the walks' own.
-/
import Derived.Test.YtanelmmklnpohaaKids
namespace Go.Proofs.Ytanelmmklnpohaa
open Go.RowKit
set_option linter.unusedVariables false
set_option linter.unusedSimpArgs false

theorem bytes_clone {w : World} {L B c : Nat} {A : Option Addr} {l : List Nat} (h : Rd w L B A (nums .u8 l)) (hl : l.length ≤ 1048576) :
    Calls Try.prog 51 #[.slice A l.length c] w (Rets fun V w' => OwnB w' w.heap.size V l ∧ Below w.heap.size w w' ∧ (A = none → V = .slice none 0 0)) := by
  rcases A with _ | ad
  · refine (Try.bytes_Clone_nil l.length c w).mono ?_
    rintro e w' ⟨rfl, rfl⟩
    have h0 : l = [] := by
      rcases Nat.eq_zero_or_pos l.length with h0 | h0
      · exact List.eq_nil_of_length_eq_zero h0
      · obtain ⟨b, off, e, _⟩ := h (by rw [nums_length]; exact h0)
        cases e
    subst h0
    exact Rets.mk ⟨World.ownsRow_nil _ _ _ _, Below.refl _ _, fun _ => rfl⟩
  · refine (Try.bytes_Clone_at ad l.length c (l.map fun (x : Nat) => (x : Int)) w (by simp) (by omega) (fun i hi => ?_)).mono ?_
    · obtain ⟨b, off, e, _, _, hc⟩ := h.num hi
      injection e with e
      subst e
      rw [add_plain, hc i hi]
      simp [hi]
    · rintro e w' ⟨v', rfl, h1, _, h3⟩
      refine Rets.mk ⟨?_, h3, fun e => by cases e⟩
      unfold OwnB nums
      rw [List.map_map] at h1
      exact h1

def NodePost (pb L B : Nat) (w : World) (r : Option (Nd × List Nat) × Int) (e : Ending) (w' : World) : Prop :=
  w.grownBy w' (some pb) ∧ Cnt w' pb r.2 ∧ ∃ t A1 n1 c1 A2 n2 c2 A3 n3 c3, e = .returned (.tuple #[.agg #[.int .i64 t, .slice A1 n1 c1, .slice A2 n2 c2], .slice A3 n3 c3, .bool r.1.isSome]) ∧
    ∀ n s, r.1 = some (n, s) → RepN w' w.heap.size w'.heap.size n [.int .i64 t, .slice A1 n1 c1, .slice A2 n2 c2] ∧ n3 = s.length ∧ s.length ≤ c3 ∧ c3 ≤ maxLen ∧ Rd w' L B A3 (nums .u8 s) ∧ Dig 256 s
theorem NodePost.no {pb L B : Nat} {w w' : World} {r : Option (Nd × List Nat) × Int} {l : Int} {t : Int} {A1 A2 A3 : Option Addr} {n1 c1 n2 c2 n3 c3 : Nat} (h : r = (none, l)) (hg : w.grownBy w' (some pb)) (hc : Cnt w' pb l) :
    NodePost pb L B w r (.returned (.tuple #[.agg #[.int .i64 t, .slice A1 n1 c1, .slice A2 n2 c2], .slice A3 n3 c3, .bool false])) w' := by
  subst h
  exact ⟨hg, hc, _, _, _, _, _, _, _, _, _, _, rfl, fun n s e => by cases e⟩
theorem NodePost.yes {pb L B : Nat} {w w' : World} {r : Option (Nd × List Nat) × Int} {l : Int} {n : Nd} {s : List Nat} {t : Int} {A1 A2 A3 : Option Addr} {n1 c1 n2 c2 n3 c3 : Nat} (h : r = (some (n, s), l)) (hg : w.grownBy w' (some pb)) (hc : Cnt w' pb l)
    (hr : RepN w' w.heap.size w'.heap.size n [.int .i64 t, .slice A1 n1 c1, .slice A2 n2 c2]) (h3 : n3 = s.length) (h4 : s.length ≤ c3) (h5 : c3 ≤ maxLen) (h6 : Rd w' L B A3 (nums .u8 s)) (h7 : Dig 256 s) :
    NodePost pb L B w r (.returned (.tuple #[.agg #[.int .i64 t, .slice A1 n1 c1, .slice A2 n2 c2], .slice A3 n3 c3, .bool true])) w' := by
  subst h
  refine ⟨hg, hc, _, _, _, _, _, _, _, _, _, _, rfl, fun n' s' e => ?_⟩
  injection e with e
  simp only [Prod.mk.injEq] at e
  obtain ⟨rfl, rfl⟩ := e
  exact ⟨hr, h3, h4, h5, h6, h7⟩

mutual
theorem node_some : ∀ (f : Nat) (b : List Nat) (d : Nat) (l : Int) (n : Nd) (s : List Nat) (l' : Int), Dig 256 b → nodeN f b d l = (some (n, s), l') → s.length + 2 ≤ b.length ∧ l' < l ∧ 0 ≤ l' ∧ Dig 256 s
  | 0, b, d, l, n, s, l', hb, h => by simp [nodeN] at h
  | f + 1, b, d, l, n, s, l', hb, h => by
    unfold nodeN at h
    split at h
    · simp at h
    rename_i g1
    split at h
    · simp at h
    rename_i t held rest hh
    obtain ⟨e1, _, h2, _⟩ := head_spec hb hh
    have hd := hb
    rw [e1] at hd
    have hd2 := (Dig.app.1 hd).2
    split at h
    · split at h
      · simp only [Prod.mk.injEq, Option.some.injEq] at h
        obtain ⟨⟨_, rfl⟩, rfl⟩ := h
        exact ⟨by omega, by omega, by omega, hd2⟩
      · simp at h
    · have hk := kids_some f held (d + 1) (l - 1)
      have hdh : Dig 256 held := by
        have h3 := (Dig.app.1 hd).1
        unfold headed at h3
        exact (Dig.app.1 (Dig.cons.1 h3).2).2
      split at h
      · rename_i ks l'' hk2
        simp only [Prod.mk.injEq, Option.some.injEq] at h
        obtain ⟨⟨_, rfl⟩, rfl⟩ := h
        have := hk ks l'' hdh (by omega) hk2
        exact ⟨by omega, by omega, by omega, hd2⟩
      · simp at h
theorem kids_some : ∀ (f : Nat) (h : List Nat) (d : Nat) (l : Int) (ks : List Nd) (l' : Int), Dig 256 h → 0 ≤ l → kidsN f h d l = (some ks, l') → l' ≤ l ∧ 0 ≤ l'
  | 0, h, d, l, ks, l', hb, hl, e => by simp [kidsN] at e
  | f + 1, h, d, l, ks, l', hb, hl, e => by
    unfold kidsN at e
    split at e
    · simp only [Prod.mk.injEq, Option.some.injEq] at e
      omega
    · have hn := node_some f h d l
      split at e
      · rename_i k rest l1 hk
        obtain ⟨_, h2, h3, h4⟩ := hn k rest l1 hb hk
        have hks := kids_some f rest d l1
        split at e
        · rename_i ks2 l2 hk2
          have := hks ks2 l2 h4 h3 hk2
          simp only [Prod.mk.injEq, Option.some.injEq] at e
          omega
        · simp at e
      · simp at e
end

/-- Three cells of one block, open to stores. -/
def Blk (w : World) (g : Nat) (v0 v1 v2 : Value) : Prop :=
  (w.cell? ⟨g, 0, none⟩ = some v0 ∧ w.cell? ⟨g, 1, none⟩ = some v1 ∧ w.cell? ⟨g, 2, none⟩ = some v2) ∧ w.frozen? ⟨g, 0, none⟩ = false ∧ w.frozen? ⟨g, 1, none⟩ = false ∧ w.frozen? ⟨g, 2, none⟩ = false
theorem Blk.made {w : World} {v0 v1 v2 : Value} {t : TypeId} {g : Nat} (hg : g = w.heap.size) : Blk (w.alloc (.cells #[v0, v1, v2] t)) g v0 v1 v2 := by
  subst hg
  refine ⟨⟨?_, ?_, ?_⟩, ?_, ?_, ?_⟩
  · rw [World.cell?_alloc_at _ _ _ _ rfl]; rfl
  · rw [World.cell?_alloc_at _ _ _ _ rfl]; rfl
  · rw [World.cell?_alloc_at _ _ _ _ rfl]; rfl
  all_goals simp
theorem Blk.lt {w : World} {g : Nat} {v0 v1 v2 : Value} (h : Blk w g v0 v1 v2) : g < w.heap.size := World.block_lt_of_cell? w _ h.1.1
theorem Blk.kept {w w' : World} {g : Nat} {v0 v1 v2 : Value} (h : Blk w g v0 v1 v2) (hb : w'.heap[g]? = w.heap[g]?) : Blk w' g v0 v1 v2 := by
  obtain ⟨⟨a, b, c⟩, d, e, f⟩ := h
  exact ⟨⟨(World.cell?_of_block (w := w) (a := ⟨g, 0, none⟩) hb).trans a, (World.cell?_of_block (w := w) (a := ⟨g, 1, none⟩) hb).trans b, (World.cell?_of_block (w := w) (a := ⟨g, 2, none⟩) hb).trans c⟩,
    (World.frozen?_of_block (w := w) (a := ⟨g, 0, none⟩) hb).trans d, (World.frozen?_of_block (w := w) (a := ⟨g, 1, none⟩) hb).trans e, (World.frozen?_of_block (w := w) (a := ⟨g, 2, none⟩) hb).trans f⟩
theorem Blk.grown {w w' : World} {g : Nat} {v0 v1 v2 : Value} {row : Option Nat} (h : Blk w g v0 v1 v2) (hg : w.grownBy w' row) (hr : some g ≠ row) : Blk w' g v0 v1 v2 := h.kept (hg.block g h.lt hr)
theorem Blk.below {w w' : World} {B g : Nat} {v0 v1 v2 : Value} (h : Blk w g v0 v1 v2) (hb : Below B w w') (hB : g < B) : Blk w' g v0 v1 v2 := h.kept (hb.block g hB)
theorem Blk.alloc {w : World} {g : Nat} {v0 v1 v2 : Value} (h : Blk w g v0 v1 v2) (o : Obj) : Blk (w.alloc o) g v0 v1 v2 := h.kept (Below.heap_alloc _ _ _ h.lt)
theorem Blk.other {w : World} {g : Nat} {v0 v1 v2 : Value} (h : Blk w g v0 v1 v2) {p : Addr} (hp : g ≠ p.block) (u : Value) : Blk (w.setCell p u) g v0 v1 v2 := h.kept (Below.heap_setCell _ _ _ _ hp)
def lenOfS : Value → Nat
  | .slice _ n _ => n
  | _ => 0

theorem Blk.set3 {w : World} {g : Nat} {v0 v1 v2 : Value} (h : Blk w g v0 v1 v2) (u0 u1 u2 : Value) : Blk (((w.setCell ⟨g, 0, none⟩ u0).setCell ⟨g, 1, none⟩ u1).setCell ⟨g, 2, none⟩ u2) g u0 u1 u2 := by
  obtain ⟨⟨a, b, c⟩, d, e, f⟩ := h
  refine ⟨⟨?_, ?_, ?_⟩, ?_, ?_, ?_⟩ <;> simp [World.cell?_setCell_other, World.cell?_setCell_same, World.frozen?_setCell, a, b, c, d, e, f]
theorem Blk.set3k {w : World} {g k : Nat} {v0 v1 v2 : Value} (h : Blk w g v0 v1 v2) (hg : g ≠ k) (u0 u1 u2 : Value) : Blk (((w.setCell ⟨k, 0, none⟩ u0).setCell ⟨k, 1, none⟩ u1).setCell ⟨k, 2, none⟩ u2) g v0 v1 v2 :=
  ((h.other (p := ⟨k, 0, none⟩) hg _).other (p := ⟨k, 1, none⟩) hg _).other (p := ⟨k, 2, none⟩) hg _
theorem only_set3 (w : World) (g : Nat) (u0 u1 u2 : Value) : w.grownBy (((w.setCell ⟨g, 0, none⟩ u0).setCell ⟨g, 1, none⟩ u1).setCell ⟨g, 2, none⟩ u2) (some g) :=
  only_setCell (g := g) (p := ⟨g, 2, none⟩) (only_setCell (g := g) (p := ⟨g, 1, none⟩) (only_setCell (g := g) (p := ⟨g, 0, none⟩) (only_refl w _) (.inl rfl) _) (.inl rfl) _) (.inl rfl) _
theorem rd_lit3 (W : World) (v0 v1 v2 : Value) (t : TypeId) : Rd (W.alloc (.cells #[v0, v1, v2] t)) W.heap.size (W.heap.size + 1) (some ⟨W.heap.size, 0, none⟩) [v0, v1, v2] := fun _ =>
  ⟨W.heap.size, 0, rfl, Nat.le_refl _, by omega, fun j hj => by
    rw [World.cell?_alloc_at _ _ _ _ rfl]
    match j, hj with
    | 0, _ => rfl
    | 1, _ => rfl
    | 2, _ => rfl⟩
theorem only_past {a w w' : World} {row r2 : Option Nat} (h : a.grownBy w row) (hg : w.grownBy w' r2) (hr : ∀ g, r2 = some g → a.heap.size ≤ g) : a.grownBy w' row :=
  ⟨hg.os.trans h.os, hg.tape.trans h.tape, hg.output.trans h.output, Nat.le_trans h.size hg.size, fun k hk hn => (hg.block k (Nat.lt_of_lt_of_le hk h.size) (fun e => by have := hr k e.symm; omega)).trans (h.block k hk hn)⟩
theorem cnt_grown {w w' : World} {pb : Nat} {l : Int} {row : Option Nat} (h : Cnt w pb l) (hg : w.grownBy w' row) (hr : some pb ≠ row) : Cnt w' pb l :=
  ⟨(World.cell?_of_block (w := w) (a := ⟨pb, 0, none⟩) (hg.block pb (cnt_lt h) hr)).trans h.1, (World.frozen?_of_block (w := w) (a := ⟨pb, 0, none⟩) (hg.block pb (cnt_lt h) hr)).trans h.2⟩
theorem Blk.set2 {w : World} {g : Nat} {v0 v1 v2 : Value} (h : Blk w g v0 v1 v2) (u : Value) : Blk (w.setCell ⟨g, 2, none⟩ u) g v0 v1 u := by
  obtain ⟨⟨a, b, c⟩, d, e, f⟩ := h
  refine ⟨⟨?_, ?_, ?_⟩, ?_, ?_, ?_⟩ <;> simp [World.cell?_setCell_other, World.cell?_setCell_same, World.frozen?_setCell, a, b, c, d, e, f]
theorem grown_set3 {a w : World} {pb g : Nat} (h : a.grownBy w (some pb)) (hg : a.heap.size ≤ g) (u0 u1 u2 : Value) : a.grownBy (((w.setCell ⟨g, 0, none⟩ u0).setCell ⟨g, 1, none⟩ u1).setCell ⟨g, 2, none⟩ u2) (some pb) :=
  only_setCell (only_setCell (only_setCell h (.inr hg) _) (.inr hg) _) (.inr hg) _
theorem cnt_other {w : World} {pb : Nat} {l : Int} (h : Cnt w pb l) {p : Addr} (hp : pb ≠ p.block) (u : Value) : Cnt (w.setCell p u) pb l :=
  ⟨(World.cell?_of_block (w := w) (a := ⟨pb, 0, none⟩) (Below.heap_setCell w p u pb hp)).trans h.1, (World.frozen?_of_block (w := w) (a := ⟨pb, 0, none⟩) (Below.heap_setCell w p u pb hp)).trans h.2⟩
theorem cnt_set3 {w : World} {pb g : Nat} {l : Int} (h : Cnt w pb l) (hg : pb ≠ g) (u0 u1 u2 : Value) : Cnt (((w.setCell ⟨g, 0, none⟩ u0).setCell ⟨g, 1, none⟩ u1).setCell ⟨g, 2, none⟩ u2) pb l :=
  cnt_other (cnt_other (cnt_other h hg _) hg _) hg _
theorem rd_set3 {w : World} {L B g : Nat} {A : Option Addr} {vs : List Value} (h : Rd w L B A vs) (hg : g < L ∨ B ≤ g) (u0 u1 u2 : Value) : Rd (((w.setCell ⟨g, 0, none⟩ u0).setCell ⟨g, 1, none⟩ u1).setCell ⟨g, 2, none⟩ u2) L B A vs :=
  ((h.setCell (p := ⟨g, 0, none⟩) hg _).setCell (p := ⟨g, 1, none⟩) hg _).setCell (p := ⟨g, 2, none⟩) hg _
theorem size_set3 (w : World) (g : Nat) (u0 u1 u2 : Value) : (((w.setCell ⟨g, 0, none⟩ u0).setCell ⟨g, 1, none⟩ u1).setCell ⟨g, 2, none⟩ u2).heap.size = w.heap.size := by simp [World.setCell]
theorem cell_set3 {w : World} {g : Nat} {p : Addr} (h : p.block ≠ g) (u0 u1 u2 : Value) : (((w.setCell ⟨g, 0, none⟩ u0).setCell ⟨g, 1, none⟩ u1).setCell ⟨g, 2, none⟩ u2).cell? p = w.cell? p := by
  have e : ∀ o, (⟨g, o, none⟩ : Addr) ≠ p := fun o e => h (by subst e; rfl)
  rw [World.cell?_setCell_other _ _ _ _ (e 2), World.cell?_setCell_other _ _ _ _ (e 1), World.cell?_setCell_other _ _ _ _ (e 0)]
theorem KidsOk.set3 {w : World} {lo g : Nat} {gb : Option Nat} {ks : List Nd} {cs : List Value} (h : KidsOk w lo gb ks cs) (hg : g < lo) (u0 u1 u2 : Value) : KidsOk (((w.setCell ⟨g, 0, none⟩ u0).setCell ⟨g, 1, none⟩ u1).setCell ⟨g, 2, none⟩ u2) lo gb ks cs :=
  h.keep (by rw [size_set3]; exact Nat.le_refl _) (fun p p1 _ _ => cell_set3 (by omega) _ _ _) (fun g e => .inl e)
theorem own_set3 {w : World} {base g size n : Nat} {e : TypeId} {v : Value} {xs : List Value} (h : w.ownsRow base e size v n xs) (hg : g < base) (u0 u1 u2 : Value) : (((w.setCell ⟨g, 0, none⟩ u0).setCell ⟨g, 1, none⟩ u1).setCell ⟨g, 2, none⟩ u2).ownsRow base e size v n xs :=
  ownsRow_setCell_below (ownsRow_setCell_below (ownsRow_setCell_below h (a := ⟨g, 0, none⟩) hg _) (a := ⟨g, 1, none⟩) hg _) (a := ⟨g, 2, none⟩) hg _
theorem res_node {tmps : Array Value} {w : World} {g : Nat} {v0 v1 v2 : Value} (ht : tmps.getD 6 undef = .pointer (some ⟨g, 0, none⟩)) (h : Blk w g v0 v1 v2) :
    (results Try.f34 tmps).run Try.prog w = .ok (.tuple #[.agg #[v0, v1, v2], tmps.getD 7 undef, tmps.getD 8 undef]) w := by
  obtain ⟨⟨a, b, c⟩, d, e, f⟩ := h
  have ht' : tmps[6]?.getD undef = .pointer (some ⟨g, 0, none⟩) := by simpa using ht
  simp [results, Try.results34, go_sem, a, b, c, ht']
def NodeInv (w : World) (pb L B gn d f : Nat) (t : Int) (held : List Nat) (l : Int) (v : Value) (wr : World) : Prop :=
  ∃ (h : List Nat) (fq : Nat) (ks : List Nd) (cs : List Value) (lq : Int) (A1 : Option Addr) (c1 : Nat) (A' : Option Addr) (c' : Nat),
    v = .slice A1 h.length c1 ∧ h.length ≤ c1 ∧ c1 ≤ maxLen ∧ Hid (Rd wr L B A1 (nums .u8 h)) ∧ Hid (Dig 256 h) ∧ h.length + 3 ≤ fq ∧ fq ≤ f ∧ Hid (w.grownBy wr (some pb)) ∧ Hid (Cnt wr pb lq) ∧ 0 ≤ lq ∧ lq ≤ l ∧
    Hid (Blk wr gn (.int .i64 t) (.slice none 0 0) (.slice A' ks.length c')) ∧ Hid (Blk wr w.heap.size (.int .i64 0) (.slice none 0 0) (.slice none 0 0)) ∧
    Hid (wr.ownsRow (gn + 1) 25 3 (.slice A' ks.length c') ks.length cs) ∧ Hid (KidsOk wr (gn + 1) (Value.slice A' ks.length c').ownBlock ks cs) ∧ ks.length + h.length ≤ held.length ∧
    Hid (kidsN f held d l = match kidsN fq h d lq with | (some r, l') => (some (ks ++ r), l') | (none, l') => (none, l'))

set_option maxHeartbeats 4000000 in
set_option maxRecDepth 100000 in
theorem der_node (m : Nat) : ∀ (f : Nat) (b : List Nat) (A : Option Addr) (c d : Nat) (D : Int) (L B pb : Nat) (l : Int) (w : World), f ≤ m → D = (d : Int) → b.length + 2 ≤ f → d ≤ 100 → -1000000 ≤ l → l ≤ 1000000 → b.length ≤ 1048576 → b.length ≤ c → c ≤ maxLen → Dig 256 b →
    Rd w L B A (nums .u8 b) → B ≤ pb → Cnt w pb l →
    Calls Try.prog 34 #[.pointer (some ⟨pb, 0, none⟩), .slice A b.length c, .int .i64 D] w (NodePost pb L B w (nodeN f b d l)) := by
  induction m with
  | zero => intros; omega
  | succ m ih =>
    intro f b A c d D L B pb l w hm hD hf hd hl1 hl2 hbl hbc hcm hdig hrd hpb hcnt
    obtain ⟨f, rfl⟩ : ∃ f', f = f' + 1 := ⟨f - 1, by omega⟩
    subst hD
    have IH := Lib.hid ih
    have HDG := Lib.hid hdig
    have HRD := Lib.hid hrd
    have hlt : pb < w.heap.size := cnt_lt hcnt
    have HCN := Lib.hid hcnt
    obtain ⟨hc, hfz⟩ := hcnt
    clear ih hdig hrd
    have gfin : ∀ o : Obj, w.grownBy ((w.setCell ⟨pb, 0, none⟩ (.int .i64 (l - 1))).alloc o) (some pb) := fun o => only_alloc (only_setCell (only_refl w _) (.inl rfl) _) o
    have cfin : ∀ o : Obj, Cnt ((w.setCell ⟨pb, 0, none⟩ (.int .i64 (l - 1))).alloc o) pb (l - 1) := fun o => cnt_alloc (cnt_set ⟨hc, hfz⟩) o
    have GF := Lib.hid gfin
    have CF := Lib.hid cfin
    clear gfin cfin
    by_cases g1 : l - 1 < 0
    · have HM := Lib.hid (show nodeN (f + 1) b d l = (none, l - 1) by unfold nodeN; rw [if_pos (.inl g1)])
      have d1 : decide (l - 1 < 0) = true := decide_eq_true g1
      go_enter Try.func34, Try.ntmps34
      go_wp2
      go_step3
      go_wp2
      rw [Exit.noGoto_ret]
      refine bodyPost_ret (v := .tuple #[.agg #[.int .i64 0, .slice none 0 0, .slice none 0 0], .slice none 0 0, .bool false]) ?_ rfl ?_
      · simp [results, Try.results34, go_sem]
      · exact NodePost.no HM.out (GF.out _) (CF.out _)
    have d1 : decide (l - 1 < 0) = false := decide_eq_false g1
    by_cases g2 : 16 ≤ d
    · have HM := Lib.hid (show nodeN (f + 1) b d l = (none, l - 1) by unfold nodeN; rw [if_pos (.inr g2)])
      have d2 : decide (16 ≤ (d : Int)) = true := decide_eq_true (by omega)
      go_enter Try.func34, Try.ntmps34
      go_wp2
      go_step3
      go_wp2
      rw [Exit.noGoto_ret]
      refine bodyPost_ret (v := .tuple #[.agg #[.int .i64 0, .slice none 0 0, .slice none 0 0], .slice none 0 0, .bool false]) ?_ rfl ?_
      · simp [results, Try.results34, go_sem]
      · exact NodePost.no HM.out (GF.out _) (CF.out _)
    have d2 : decide (16 ≤ (d : Int)) = false := decide_eq_false (by omega)
    have g12 : ¬ (l - 1 < 0 ∨ 16 ≤ d) := by omega
    have HN := Lib.hid (show nodeN (f + 1) b d l = match headB b with
      | none => (none, l - 1)
      | some (t, held, rest) =>
        if t ≠ 48 then (if plainB t held then some (.mk t held [], rest) else none, l - 1)
        else match kidsN f held (d + 1) (l - 1) with
          | (some ks, l') => (some (.mk t [] ks, rest), l')
          | (none, l') => (none, l') by
        rw [nodeN, if_neg g12]
        rfl)
    clear g12
    go_enter Try.func34, Try.ntmps34
    go_wp2
    go_step3
    go_wp2_with fail
    have GF1 := Lib.hid (GF.out (.cells #[.int .i64 0, .slice none 0 0, .slice none 0 0] 25))
    have CF1 := Lib.hid (CF.out (.cells #[.int .i64 0, .slice none 0 0, .slice none 0 0] 25))
    have R1 := Lib.hid (Blk.made (w := w.setCell ⟨pb, 0, none⟩ (.int .i64 (l - 1))) (v0 := .int .i64 0) (v1 := .slice none 0 0) (v2 := .slice none 0 0) (t := 25) (g := w.heap.size) (by simp [World.setCell]))
    have RD1 := Lib.hid ((HRD.out.setCell (p := ⟨pb, 0, none⟩) (.inr hpb) (.int .i64 (l - 1))).alloc (B := B) (by simp [World.setCell]; omega) (.cells #[.int .i64 0, .slice none 0 0, .slice none 0 0] 25))
    generalize (w.setCell ⟨pb, 0, none⟩ (.int .i64 (l - 1))).alloc (.cells #[.int .i64 0, .slice none 0 0, .slice none 0 0] 25) = W1 at GF1 CF1 R1 RD1 ⊢
    clear GF CF hc hfz HCN
    refine Calls.mono (der_head b A c L B _ hbl hbc hcm HDG.out RD1.out (by have := cnt_lt CF1.out; omega)) ?_
    rintro e w2 ⟨hb2, hno, hyes⟩
    have hpb1 := cnt_lt CF1.out
    have GF2 := Lib.hid (GF1.out.trans (grown_of_below hb2 _))
    have CF2 : Hid (Cnt w2 pb (l - 1)) := Lib.hid ⟨(hb2.cell (p := ⟨pb, 0, none⟩) hpb1).trans CF1.out.1, (hb2.frozen (p := ⟨pb, 0, none⟩) hpb1).trans CF1.out.2⟩
    have R2 := Lib.hid (R1.out.below hb2 R1.out.lt)
    clear hb2 GF1 CF1 R1 RD1 hpb1
    rcases hH : headB b with _ | ⟨t, held, rest⟩
    · obtain rfl := hno hH
      have HM := Lib.hid (show nodeN (f + 1) b d l = (none, l - 1) by rw [HN.out, hH])
      clear hyes hno
      obtain ⟨⟨r0, r1, r2⟩, rf0, rf1, rf2⟩ := R2.out
      go_wp2
      rw [Exit.noGoto_ret]
      refine bodyPost_ret (res_node (g := w.heap.size) rfl (R2.out.set3 _ _ _)) rfl ?_
      exact NodePost.no HM.out (grown_set3 GF2.out (Nat.le_refl _) _ _ _) (cnt_set3 CF2.out (by omega) _ _ _)
    obtain ⟨A1, c1, A2, c2, rfl, hc1, hm1, hc2, hm2, hr1, hr2⟩ := hyes t held rest hH
    obtain ⟨e1, ht, hlen, _⟩ := head_spec HDG.out hH
    have HD2 : Hid (Dig 256 held ∧ Dig 256 rest) := Lib.hid (by
      have hd := HDG.out
      rw [e1] at hd
      refine ⟨?_, (Dig.app.1 hd).2⟩
      have h3 := (Dig.app.1 hd).1
      unfold headed at h3
      exact (Dig.app.1 (Dig.cons.1 h3).2).2)
    have HN2 := Lib.hid (show nodeN (f + 1) b d l = if t ≠ 48 then (if plainB t held then some (.mk t held [], rest) else none, l - 1)
        else match kidsN f held (d + 1) (l - 1) with
          | (some ks, l') => (some (.mk t [] ks, rest), l')
          | (none, l') => (none, l') by rw [HN.out, hH])
    have HR1 := Lib.hid hr1
    have HR2 := Lib.hid hr2
    clear hno hyes e1 hH HN hr1 hr2
    by_cases g3 : t ≠ 48
    · have d3 : ((t : Int) != 48) = true := by rw [bne_iff_ne]; omega
      have HM := Lib.hid (show nodeN (f + 1) b d l = (if plainB t held then some (.mk t held [], rest) else none, l - 1) by rw [HN2.out, if_pos g3])
      clear g3 HN2
      obtain ⟨⟨r0, r1, r2⟩, rf0, rf1, rf2⟩ := R2.out
      go_wp2_with fail
      refine Calls.mono (bytes_clone HR1.out (by omega)) ?_
      rintro e w3 ⟨V3, rfl, ho3, hb3, hnil⟩
      obtain ⟨A3, c3, rfl, hc3, hm3⟩ := own_form ho3
      have HO3 := Lib.hid ho3
      have HN3 := Lib.hid hnil
      have hpb2 := cnt_lt CF2.out
      have GF3 := Lib.hid (GF2.out.trans (grown_of_below hb3 _))
      have CF3 : Hid (Cnt w3 pb (l - 1)) := Lib.hid ⟨(hb3.cell (p := ⟨pb, 0, none⟩) hpb2).trans CF2.out.1, (hb3.frozen (p := ⟨pb, 0, none⟩) hpb2).trans CF2.out.2⟩
      have R3 := Lib.hid (R2.out.below hb3 R2.out.lt)
      have HR13 := Lib.hid (HR1.out.below hb3 (by omega))
      have HR23 := Lib.hid (HR2.out.below hb3 (by omega))
      have HW23 := Lib.hid GF2.out.size
      have R2L := Lib.hid R2.out.lt
      clear hb3 ho3 hnil GF2 CF2 R2 r0 r1 r2 rf0 rf1 rf2
      obtain ⟨⟨r0, r1, r2⟩, rf0, rf1, rf2⟩ := R3.out
      go_wp2_with (go_at_call 48; refine (der_plain t held A1 c1 L B _ (by omega) hc1 (by exact HR13.out)).mono ?_; rintro e w' ⟨rfl, rfl⟩)
      rw [Exit.noGoto_ret]
      refine bodyPost_ret (res_node (g := w.heap.size) rfl (R3.out.set3 _ _ _)) rfl ?_
      cases hpl : plainB t held with
      | false =>
        exact NodePost.no (by rw [HM.out, hpl]; rfl) (grown_set3 GF3.out (Nat.le_refl _) _ _ _) (cnt_set3 CF3.out (by omega) _ _ _)
      | true =>
        refine NodePost.yes (by rw [HM.out, hpl]; rfl) (grown_set3 GF3.out (Nat.le_refl _) _ _ _) (cnt_set3 CF3.out (by omega) _ _ _) ?_ rfl hc2 hm2 (rd_set3 HR23.out (.inr (by omega)) _ _ _) HD2.out.2
        have hw3 := GF3.out.size
        refine RepN.of_kids (lo := w3.heap.size) (base := w3.heap.size) (ks := []) (cs := []) hw3 hw3 (by unfold KidsOk; rfl) (World.ownsRow_nil _ _ _ _) (by simp) hc3 hm3 (by omega) (fun e => ?_) HD2.out.1 ?_
        · rw [e] at d3; simp at d3
        · rw [size_set3]
          exact (rd_set3 (own_rd HO3.out) (.inl (R2L.out)) _ _ _).wide HW23.out (Nat.le_refl _)
    have d3 : ((t : Int) != 48) = false := by simp; omega
    have HM := Lib.hid (show nodeN (f + 1) b d l = match kidsN f held (d + 1) (l - 1) with
          | (some ks, l') => (some (.mk t [] ks, rest), l')
          | (none, l') => (none, l') by rw [HN2.out, if_neg g3])
    clear g3 HN2
    have hpb2 := cnt_lt CF2.out
    have hr2l := R2.out.lt
    have hf0 : held.length + 3 ≤ f := by omega
    have HB1 := Lib.hid (Blk.made (w := w2) (v0 := .int .i64 (t : Int)) (v1 := .slice none 0 0) (v2 := .slice none 0 0) (t := 25) (g := w2.heap.size) rfl)
    have hinv : NodeInv w pb L B w2.heap.size (d + 1) f t held (l - 1) (.slice A1 held.length c1) (w2.alloc (.cells #[.int .i64 (t : Int), .slice none 0 0, .slice none 0 0] 25)) :=
      ⟨held, f, [], [], l - 1, A1, c1, none, 0, rfl, hc1, hm1, HR1.out.alloc (by omega) _, Lib.hid HD2.out.1, hf0, Nat.le_refl _, only_alloc GF2.out _, cnt_alloc CF2.out _, g1, Int.le_refl _, HB1.out, R2.out.alloc _, World.ownsRow_nil _ _ _ _, (by unfold KidsOk; exact rfl), (by simp), (by
        generalize kidsN f held (d + 1) (l - 1) = rr
        obtain ⟨o, l'⟩ := rr
        cases o <;> exact Lib.hid rfl)⟩
    have HINV := Lib.hid hinv
    have HR2W := Lib.hid (HR2.out.keep (w' := w) fun p p1 p2 => (World.cell?_of_block (w := w) (GF2.out.block p.block (by omega) (fun e => by injection e with e; omega))).symm)
    clear hinv HB1 R2 GF2 CF2 HR1 HR2
    have HHL := Lib.hid hlen
    generalize hgn : w2.heap.size = gn at *
    go_wp2
    go_step3
    go_wp2
    go_loopw [10] (fun v wr => NodeInv w pb L B gn (d + 1) f t held (l - 1) v wr) (fun v _ => lenOfS v)
    case atStart => exact HINV.out
    case round =>
      obtain ⟨h, fq, ks, cs, lq, A1q, c1q, A', c', rfl, hcq1, hcq2, HRq, HDq, hfq1, hfq2, HGq, HCq, hlq0, hlq1, HBq, HRes, HOq, HKq, hkl, HEq⟩ := hrel
      clear HINV
      have HW := Lib.hid HGq.out.size
      have hpbq := cnt_lt HCq.out
      have hgnq := HBq.out.lt
      rcases Nat.eq_zero_or_pos h.length with g4 | g4
      · have d4 : decide (0 < (h.length : Int)) = false := decide_eq_false (by omega)
        have d5 : decide (0 < h.length) = false := decide_eq_false (by omega)
        have HM2 := Lib.hid (show nodeN (f + 1) b d l = (some (.mk t [] ks, rest), lq) by
          rw [HM.out, HEq.out]
          obtain ⟨fq', rfl⟩ : ∃ x, fq = x + 1 := ⟨fq - 1, by omega⟩
          rw [kidsN, if_pos g4]
          simp)
        obtain ⟨⟨n0, n1, n2⟩, nf0, nf1, nf2⟩ := HBq.out
        obtain ⟨⟨r0, r1, r2⟩, rf0, rf1, rf2⟩ := HRes.out
        go_wp2
        try rw [Exit.noGoto_ret]
        refine bodyPost_ret (res_node (g := w.heap.size) rfl (HRes.out.set3 _ _ _)) rfl ?_
        have hwsz := HW.out
        refine NodePost.yes HM2.out (grown_set3 HGq.out (Nat.le_refl _) _ _ _) (cnt_set3 HCq.out (by omega) _ _ _) ?_ rfl hc2 hm2 (rd_set3 (HR2W.out.grown HGq.out (by omega) (fun g e => by injection e with e; omega)) (.inr (by omega)) _ _ _) HD2.out.2
        exact RepN.of_kids (lo := gn + 1) (base := gn + 1) (cs := cs) (b := []) (by omega) (by omega) (HKq.out.set3 (by omega) _ _ _) (own_set3 HOq.out (by omega) _ _ _) (by omega) (Nat.zero_le _) (Nat.zero_le _) (by simp) (fun _ _ => ⟨rfl, rfl⟩) Dig.nil (by intro h; simp [nums] at h)
      · have d4 : decide (0 < (h.length : Int)) = true := decide_eq_true (by omega)
        have d5 : decide (0 < h.length) = true := decide_eq_true g4
        obtain ⟨fq, rfl⟩ : ∃ x, fq = x + 1 := ⟨fq - 1, by omega⟩
        have HU := Lib.hid (show kidsN (fq + 1) h (d + 1) lq = match nodeN fq h (d + 1) lq with
            | (some (k, s), l') => (match kidsN fq s (d + 1) l' with
              | (some r, l'') => (some (k :: r), l'')
              | (none, l'') => (none, l''))
            | (none, l') => (none, l') by rw [kidsN, if_neg (by omega)]; rfl)
        have HNS := Lib.hid (fun n s l' => node_some fq h (d + 1) lq n s l' HDq.out)
        have HKB := Lib.hid (Blk.made (w := wr) (v0 := .int .i64 0) (v1 := .slice none 0 0) (v2 := .slice none 0 0) (t := 25) (g := wr.heap.size) rfl)
        go_wp2_with fail
        have HC' := Lib.hid (cnt_alloc HCq.out (.cells #[.int .i64 0, .slice none 0 0, .slice none 0 0] 25))
        refine Calls.mono (IH.out fq h A1q c1q (d + 1) _ L B pb lq _ (by omega) (by omega) (by omega) (by omega) (by omega) (by omega) (by omega) hcq1 hcq2 HDq.out (by exact HRq.out.alloc (by have := HW.out; omega) _) hpb (by exact HC'.out)) ?_
        rintro e w4 ⟨hg4, hc4, tt, A5, n5, c5, A6, n6, c6, A7, n7, c7, rfl, hyes4⟩
        generalize nodeN fq h (d + 1) lq = rr at HU HNS hc4 hyes4 ⊢
        obtain ⟨o4, l4⟩ := rr
        simp only at hc4 hyes4
        have HG4 := Lib.hid ((only_alloc HGq.out _).trans hg4)
        have HC4 := Lib.hid hc4
        have HKB4 := Lib.hid (HKB.out.grown hg4 (by intro e; injection e with e; omega))
        have HB4 := Lib.hid ((HBq.out.alloc (.cells #[.int .i64 0, .slice none 0 0, .slice none 0 0] 25)).grown hg4 (by intro e; injection e with e; omega))
        have HRes4 := Lib.hid ((HRes.out.alloc (.cells #[.int .i64 0, .slice none 0 0, .slice none 0 0] 25)).grown hg4 (by intro e; injection e with e; omega))
        rcases o4 with _ | ⟨k, s⟩
        · have HM2 := Lib.hid (show nodeN (f + 1) b d l = (none, l4) by rw [HM.out, HEq.out, HU.out])
          clear hyes4 hg4 hc4
          obtain ⟨⟨r0, r1, r2⟩, rf0, rf1, rf2⟩ := HRes4.out
          obtain ⟨⟨k0, k1, k2⟩, kf0, kf1, kf2⟩ := HKB4.out
          go_wp2
          try rw [Exit.noGoto_ret]
          refine bodyPost_ret (res_node (g := w.heap.size) rfl ((HRes4.out.set3k (by omega) _ _ _).set3 _ _ _)) rfl ?_
          exact NodePost.no HM2.out (grown_set3 (grown_set3 HG4.out HW.out _ _ _) (Nat.le_refl _) _ _ _) (cnt_set3 (cnt_set3 HC4.out (by omega) _ _ _) (by omega) _ _ _)
        · obtain ⟨hrep4, rfl, h74, h75, hrd7, hdig7⟩ := hyes4 k s rfl
          obtain ⟨hs1, hs2, hs3, _⟩ := HNS.out k s l4 rfl
          have HR4 := Lib.hid hrep4
          have HRD7 := Lib.hid hrd7
          have HDG7 := Lib.hid hdig7
          have hob : ∀ g, (Value.slice A' ks.length c').ownBlock = some g → gn + 1 ≤ g ∧ g < wr.heap.size := fun g e => HOq.out.lt g e
          have hg04 := only_alloc (only_refl wr (some pb)) (.cells #[.int .i64 0, .slice none 0 0, .slice none 0 0] 25) |>.trans hg4
          have HO5 := Lib.hid ((HOq.out.kept hg04 (by
            cases ho : (Value.slice A' ks.length c').ownBlock with
            | none => exact .inl rfl
            | some g => exact .inr (fun e => by injection e with e; have := (hob g ho).1; omega))).kept (only_set3 w4 wr.heap.size (.int .i64 tt) (.slice A5 n5 c5) (.slice A6 n6 c6)) (by
            cases ho : (Value.slice A' ks.length c').ownBlock with
            | none => exact .inl rfl
            | some g => exact .inr (fun e => by injection e with e; have := (hob g ho).2; omega)))
          have hw04 := hg04.size
          have hsz4 : wr.heap.size + 1 ≤ w4.heap.size := by have := hg4.size; simpa using this
          have HK5 := Lib.hid (HKq.out.keep (w' := ((w4.setCell ⟨wr.heap.size, 0, none⟩ (.int .i64 tt)).setCell ⟨wr.heap.size, 1, none⟩ (.slice A5 n5 c5)).setCell ⟨wr.heap.size, 2, none⟩ (.slice A6 n6 c6)) (gb' := (Value.slice A' ks.length c').ownBlock)
            (by rw [size_set3]; exact hw04) (fun p p1 p2 p3 => (cell_set3 (by omega) _ _ _).trans (World.cell?_of_block (hg04.block p.block p2 (fun e => by injection e with e; omega)))) (fun g e => .inl e))
          have HR5 := Lib.hid (RepN.keep (w' := ((w4.setCell ⟨wr.heap.size, 0, none⟩ (.int .i64 tt)).setCell ⟨wr.heap.size, 1, none⟩ (.slice A5 n5 c5)).setCell ⟨wr.heap.size, 2, none⟩ (.slice A6 n6 c6)) (L := wr.heap.size + 1) (fun p p1 p2 => cell_set3 (by omega) _ _ _) (by simpa using HR4.out))
          have HB5 := Lib.hid (HB4.out.set3k (k := wr.heap.size) (by omega) (.int .i64 tt) (.slice A5 n5 c5) (.slice A6 n6 c6))
          have HRes5 := Lib.hid (HRes4.out.set3k (k := wr.heap.size) (by have := HW.out; omega) (.int .i64 tt) (.slice A5 n5 c5) (.slice A6 n6 c6))
          have HG5 := Lib.hid (grown_set3 HG4.out HW.out (.int .i64 tt) (.slice A5 n5 c5) (.slice A6 n6 c6))
          have HC5 := Lib.hid (cnt_set3 HC4.out (g := wr.heap.size) (by omega) (.int .i64 tt) (.slice A5 n5 c5) (.slice A6 n6 c6))
          have HOB := Lib.hid hob
          obtain ⟨⟨k0, k1, k2⟩, kf0, kf1, kf2⟩ := HKB4.out
          clear hyes4 hg4 hc4 hrep4 hrd7 hdig7 HBq HOq HKq HRq HDq HRes HCq HGq HKB HKB4 HB4 HRes4 HG4 HC4 HR4 hg04 hob
          obtain ⟨⟨n0, n1, n2⟩, nf0, nf1, nf2⟩ := HB5.out
          have HR1c := Lib.hid HR5.out.one.2
          go_wp2_with (at_builtin
                       refine wpList_append_rd _ rfl (.tmp 68) (.tmp 70) _ rfl (gn + 1) 25 (.agg #[.int .i64 0, .slice none 0 0, .slice none 0 0]) 3 56 Try.underlying23 info_node rfl (by omega) (.slice A' ks.length c') _ _ rfl (HO5.out.alloc _)
                         w4.heap.size (w4.heap.size + 1) (some ⟨w4.heap.size, 0, none⟩) 1 1 [.int .i64 tt, .slice A5 n5 c5, .slice A6 n6 c6] rfl rfl (by have := rd_lit3 (((w4.setCell ⟨wr.heap.size, 0, none⟩ (.int .i64 tt)).setCell ⟨wr.heap.size, 1, none⟩ (.slice A5 n5 c5)).setCell ⟨wr.heap.size, 2, none⟩ (.slice A6 n6 c6)) (.int .i64 tt) (.slice A5 n5 c5) (.slice A6 n6 c6) 25; rw [size_set3] at this; exact this) HR1c.out (by simp only [maxLen]; omega) (by omega) (by simp [World.setCell]; omega) ?_
                       intro v6 w6 hown6 hg6 hat6 hnil6
                       obtain ⟨A6', c6', rfl, hc6, hm6⟩ := own_form hown6
                       have HO6 := Lib.hid hown6
                       have HG6 := Lib.hid hg6
                       have HAT6 := Lib.hid hat6
                       have HB6 := Lib.hid ((HB5.out.alloc (.cells #[.int .i64 tt, .slice A5 n5 c5, .slice A6 n6 c6] 25)).grown hg6 (fun e => by have := HOB.out gn e.symm; omega))
                       clear hown6 hg6 hat6 hnil6 n0 n1 n2 nf0 nf1 nf2 k0 k1 k2 kf0 kf1 kf2
                       obtain ⟨⟨n0, n1, n2⟩, nf0, nf1, nf2⟩ := HB6.out)
          go_roundw
          case rel =>
            have hw := HW.out
            have hob := HOB.out
            have hrow : ∀ g, some g = (Value.slice A' ks.length c').ownBlock → gn + 1 ≤ g ∧ g < wr.heap.size := fun g e => hob g e.symm
            have hs5 := size_set3 w4 wr.heap.size (.int .i64 tt) (.slice A5 n5 c5) (.slice A6 n6 c6)
            have hlen1 : (ks ++ [k]).length = ks.length + 1 := by simp
            have hs6 := HG6.out.size
            rw [World.size_alloc, hs5] at hs6
            have hgb : ∀ g, (Value.slice A6' (ks.length + 1) c6').ownBlock = some g → (Value.slice A' ks.length c').ownBlock = some g ∨ w4.heap.size ≤ g := fun g e => by
              rcases HAT6.out with h | h
              · exact .inl (h.symm.trans e)
              · rw [e, World.size_alloc, hs5] at h
                injection h with h
                omega
            have hcell : ∀ p : Addr, p.block < w4.heap.size → (Value.slice A' ks.length c').ownBlock ≠ some p.block → p.block ≠ gn → (w6.setCell ⟨gn, 2, none⟩ (.slice A6' (ks.length + 1) c6')).cell? p = (((w4.setCell ⟨wr.heap.size, 0, none⟩ (.int .i64 tt)).setCell ⟨wr.heap.size, 1, none⟩ (.slice A5 n5 c5)).setCell ⟨wr.heap.size, 2, none⟩ (.slice A6 n6 c6)).cell? p := fun p p1 p2 p3 => by
              rw [World.cell?_setCell_other _ _ _ _ (fun e => by subst e; exact p3 rfl), World.cell?_of_block (HG6.out.block p.block (by rw [World.size_alloc, hs5]; omega) (fun e => p2 e.symm)), World.cell?_alloc_lt _ _ _ (by rw [hs5]; omega)]
            refine ⟨s, fq, ks ++ [k], cs ++ [.int .i64 tt, .slice A5 n5 c5, .slice A6 n6 c6], l4, A7, c7, A6', c6', rfl, h74, h75, ?_, HDG7.out, by omega, by omega, ?_, ?_, hs3, by omega, ?_, ?_, ?_, ?_, by rw [hlen1]; omega, ?_⟩
            · exact (((rd_set3 HRD7.out (.inr (by omega)) _ _ _).alloc (by rw [hs5]; omega) _).grown HG6.out (by rw [World.size_alloc, hs5]; omega) (fun g e => .inr (by have := hrow g e.symm; omega))).setCell (p := ⟨gn, 2, none⟩) (.inr (by show B ≤ gn; omega)) _
            · exact only_setCell (p := ⟨gn, 2, none⟩) (only_past (only_alloc HG5.out _) HG6.out (fun g e => by have := hob g e; omega)) (.inr (by show w.heap.size ≤ gn; omega)) _
            · exact cnt_other (p := ⟨gn, 2, none⟩) (cnt_grown (cnt_alloc HC5.out _) HG6.out (fun e => by have := hrow pb e; omega)) (by show pb ≠ gn; omega) _
            · rw [hlen1]; exact HB6.out.set2 _
            · exact ((HRes5.out.alloc _).grown HG6.out (fun e => by have := hrow _ e; omega)).other (p := ⟨gn, 2, none⟩) (by show w.heap.size ≠ gn; omega) _
            · rw [hlen1]; exact ownsRow_setCell_below HO6.out (a := ⟨gn, 2, none⟩) (by show gn < gn + 1; omega) _
            · rw [hlen1]
              refine KidsOk.snoc rfl ⟨wr.heap.size + 1, w4.heap.size, by omega, by simp [World.setCell]; omega, fun g e => ?_, ?_⟩ (HK5.out.keep (by simp [World.setCell]; omega) (fun p p1 p2 p3 => hcell p (by rw [hs5] at p2; exact p2) p3 (by omega)) (fun g e => ?_))
              · rcases hgb g e with h | h
                · have := hob g h; omega
                · omega
              · exact RepN.keep (fun p p1 p2 => hcell p p2 (fun e => by have := hob _ e; omega) (by omega)) HR5.out
              · rcases hgb g e with h | h
                · exact .inl h
                · exact .inr (.inl (by rw [hs5]; omega))
            · show kidsN f held (d + 1) (l - 1) = _
              rw [HEq.out, HU.out]
              generalize kidsN fq s (d + 1) l4 = r2
              obtain ⟨o2, l2⟩ := r2
              cases o2 <;> simp
          case measure => simp [lenOfS]; omega
end Go.Proofs.Ytanelmmklnpohaa
