/-
  The words that the walks of this seat use: a slice that reads as a list of cells, between two block numbers; what is kept over new blocks and over writes to one row; append, make and copy in these words.
  Conditions: none; lemmas alone.
-/
import Derived.Test.YtanelmmklnpohaaRows
import Derived.WalkKit
import Derived.Lib.Hide
import Derived.Maps.AppendAt
import Derived.Deep.AppendLies
import Derived.Deep.Draws
import Derived.Deep.OwnRows
import Derived.Deep.LoopGhost
import Derived.Deep.QuietTactic
import Derived.BigQuiet
import Derived.Deep.RegionWith
import Derived.Deep.RegionHeld3
import Derived.Deep.DeepCutAuto
import Derived.Deep.DeepFit
import Derived.Laws.Rows
import Derived.Laws.IdiomCopy
namespace Go.Proofs.Ytanelmmklnpohaa
open Go.RowKit
set_option linter.unusedVariables false
set_option linter.unusedSimpArgs false

/-! ### What a call leaves, behind a name -/
def Rets (R : Value → World → Prop) (e : Ending) (w : World) : Prop := ∃ v, e = .returned v ∧ R v w
def Rets2 (R : Value → Value → World → Prop) (e : Ending) (w : World) : Prop := ∃ v u, e = .returned (.tuple #[v, u]) ∧ R v u w
def Rets3 (R : Value → Value → Value → World → Prop) (e : Ending) (w : World) : Prop := ∃ v u x, e = .returned (.tuple #[v, u, x]) ∧ R v u x w
theorem Rets.mk {R : Value → World → Prop} {v : Value} {w : World} (h : R v w) : Rets R (.returned v) w := ⟨v, rfl, h⟩
theorem Rets2.mk {R : Value → Value → World → Prop} {v u : Value} {w : World} (h : R v u w) : Rets2 R (.returned (.tuple #[v, u])) w := ⟨v, u, rfl, h⟩
theorem Rets3.mk {R : Value → Value → Value → World → Prop} {v u x : Value} {w : World} (h : R v u x w) : Rets3 R (.returned (.tuple #[v, u, x])) w := ⟨v, u, x, rfl, h⟩

theorem results_tmp4 {fn : Func} {t u v x : Tmp} (h : fn.results = #[.tmp t, .tmp u, .tmp v, .tmp x]) (tmps : Array Value) (P : Program) (w : World) :
    (results fn tmps).run P w = .ok (.tuple #[tmps.getD t undef, tmps.getD u undef, tmps.getD v undef, tmps.getD x undef]) w := by simp [results, h]

/-! ### Lists of numbers as cells -/
def nums (k : IntKind) (xs : List Nat) : List Value := xs.map fun (x : Nat) => .int k (x : Int)
theorem nums_length (k : IntKind) (xs : List Nat) : (nums k xs).length = xs.length := by simp [nums]
theorem nums_append (k : IntKind) (xs ys : List Nat) : nums k (xs ++ ys) = nums k xs ++ nums k ys := by simp [nums]
theorem nums_get (k : IntKind) (xs : List Nat) (j : Nat) (h : j < xs.length) : (nums k xs)[j]? = some (.int k ((xs.getD j 0 : Nat) : Int)) := by simp [nums, h]
theorem nums_take (k : IntKind) (xs : List Nat) (n : Nat) : nums k (xs.take n) = (nums k xs).take n := by simp [nums, List.map_take]
theorem nums_drop (k : IntKind) (xs : List Nat) (n : Nat) : nums k (xs.drop n) = (nums k xs).drop n := by simp [nums, List.map_drop]
theorem nums_set (k : IntKind) (xs : List Nat) (i x : Nat) : nums k (xs.set i x) = (nums k xs).set i (.int k (x : Int)) := by simp [nums, List.map_set]
theorem nums_one (k : IntKind) (xs : List Nat) : ∀ u ∈ nums k xs, u.oneCell' = true := by
  intro u hu
  simp only [nums, List.mem_map] at hu
  obtain ⟨x, _, rfl⟩ := hu
  rfl
theorem nums_rep (k : IntKind) (n : Nat) : nums k (List.replicate n 0) = List.replicate n (.int k 0) := by simp [nums]

/-! ### A slice that reads as a list of cells; its block lies in [L, B) -/
def Rd (w : World) (L B : Nat) (A : Option Addr) (vs : List Value) : Prop :=
  0 < vs.length → ∃ b off, A = some ⟨b, off, none⟩ ∧ L ≤ b ∧ b < B ∧ ∀ j, j < vs.length → w.cell? ⟨b, off + j, none⟩ = vs[j]?

theorem add_plain (b off j : Nat) : (⟨b, off, none⟩ : Addr).add j = ⟨b, off + j, none⟩ := by unfold Addr.add; split <;> simp_all

theorem Rd.nil {w : World} {L B : Nat} {A : Option Addr} : Rd w L B A [] := fun h => absurd h (by simp)
theorem Rd.keep {w w' : World} {L B : Nat} {A : Option Addr} {vs : List Value} (h : Rd w L B A vs) (hk : ∀ p : Addr, L ≤ p.block → p.block < B → w'.cell? p = w.cell? p) : Rd w' L B A vs := fun hn => by
  obtain ⟨b, off, e, h1, h2, hc⟩ := h hn
  exact ⟨b, off, e, h1, h2, fun j hj => (hk _ h1 h2).trans (hc j hj)⟩
theorem Rd.wide {w : World} {L B L' B' : Nat} {A : Option Addr} {vs : List Value} (h : Rd w L B A vs) (hL : L' ≤ L) (hB : B ≤ B') : Rd w L' B' A vs := fun hn => by
  obtain ⟨b, off, e, h1, h2, hc⟩ := h hn
  exact ⟨b, off, e, by omega, by omega, hc⟩
theorem Rd.below {w w' : World} {L B B' : Nat} {A : Option Addr} {vs : List Value} (h : Rd w L B A vs) (hb : Below B' w w') (hB : B ≤ B') : Rd w' L B A vs := h.keep fun _ _ hp => hb.cell (by omega)
theorem Rd.drew {w : World} {L B : Nat} {A : Option Addr} {vs : List Value} (h : Rd w L B A vs) : Rd w.drew L B A vs := h
theorem Rd.drewN {w : World} {L B : Nat} {A : Option Addr} {vs : List Value} (h : Rd w L B A vs) (n : Nat) : Rd (w.drewN n) L B A vs := h
theorem Rd.alloc {w : World} {L B : Nat} {A : Option Addr} {vs : List Value} (h : Rd w L B A vs) (hB : B ≤ w.heap.size) (o : Obj) : Rd (w.alloc o) L B A vs := h.keep fun p _ hp => World.cell?_alloc_lt w o p (by omega)
theorem Rd.setCell {w : World} {L B : Nat} {A : Option Addr} {vs : List Value} (h : Rd w L B A vs) {p : Addr} (hp : p.block < L ∨ B ≤ p.block) (u : Value) : Rd (w.setCell p u) L B A vs :=
  h.keep fun q h1 h2 => World.cell?_setCell_other w p q u (fun e => by subst e; omega)
theorem Rd.grown {w w' : World} {L B : Nat} {A : Option Addr} {vs : List Value} {row : Option Nat} (h : Rd w L B A vs) (hg : w.grownBy w' row) (hB : B ≤ w.heap.size) (hr : ∀ g, row = some g → g < L ∨ B ≤ g) : Rd w' L B A vs :=
  h.keep fun p h1 h2 => World.cell?_of_block (hg.block p.block (by omega) (fun e => by have := hr _ e.symm; omega))
theorem Rd.take {w : World} {L B : Nat} {A : Option Addr} {vs : List Value} (h : Rd w L B A vs) (n : Nat) : Rd w L B A (vs.take n) := fun hn => by
  have hn' : 0 < vs.length := by simp at hn; omega
  obtain ⟨b, off, e, h1, h2, hc⟩ := h hn'
  refine ⟨b, off, e, h1, h2, fun j hj => ?_⟩
  have : j < n ∧ j < vs.length := by simp at hj; omega
  rw [hc j this.2, List.getElem?_take, if_pos this.1]
/-- 'xs[m:]' at cells: the address as the model has it. -/
theorem Rd.drop {w : World} {L B c : Nat} {A : Option Addr} {vs : List Value} (h : Rd w L B A vs) (m : Nat) (hm : c = m → vs.length ≤ m) : Rd w L B (if c = m then A else A.map (·.add m)) (vs.drop m) := fun hn => by
  have hn' : m < vs.length := by simp at hn; omega
  obtain ⟨b, off, rfl, h1, h2, hc⟩ := h (by omega)
  rw [if_neg (fun e => by have := hm e; omega)]
  refine ⟨b, off + m, by simp [add_plain], h1, h2, fun j hj => ?_⟩
  have hj' : m + j < vs.length := by simp at hj; omega
  rw [show off + m + j = off + (m + j) from by omega, hc _ hj', List.getElem?_drop]
/-- The cell of a list of numbers. -/
theorem Rd.num {w : World} {L B : Nat} {A : Option Addr} {k : IntKind} {xs : List Nat} (h : Rd w L B A (nums k xs)) {i : Nat} (hi : i < xs.length) :
    ∃ b off, A = some ⟨b, off, none⟩ ∧ L ≤ b ∧ b < B ∧ ∀ j, j < xs.length → w.cell? ⟨b, off + j, none⟩ = some (.int k ((xs.getD j 0 : Nat) : Int)) := by
  obtain ⟨b, off, e, h1, h2, hc⟩ := h (by rw [nums_length]; omega)
  exact ⟨b, off, e, h1, h2, fun j hj => (hc j (by rw [nums_length]; exact hj)).trans (nums_get k xs j hj)⟩

theorem rd_lit (W : World) (v : Value) (t : TypeId) : Rd (W.alloc (.cells #[v] t)) W.heap.size (W.heap.size + 1) (some ⟨W.heap.size, 0, none⟩) [v] := fun _ =>
  ⟨W.heap.size, 0, rfl, Nat.le_refl _, by omega, fun j hj => by
    have : j = 0 := by simp at hj; omega
    subst this
    rw [World.cell?_alloc_at _ _ _ _ rfl]
    rfl⟩
/-- 'xs[m:]' without a case on the capacity: lay it ahead of the walk. -/
theorem cut_from {P : Program} (t e : TypeId) (kl : IntKind) {i : TypeInfo} (ht : P.underlying t = some (.slice e)) (hi : P.info? e = some i) (hsz : i.size = 1) (A : Option Addr) (n c m : Nat) (hm : m ≤ n) (hnc : n ≤ c) :
    ∃ A' : Option Addr, (∀ W : World, (Instr.slice t (.slice A n c) (some (.int kl (m : Int))) none none).run P W = .ok (.slice A' (n - m) (c - m)) W) ∧
      ∀ (w : World) (L B : Nat) (xs : List Value), xs.length = n → Rd w L B A xs → Rd w L B A' (xs.drop m) := by
  refine ⟨if c = m then A else A.map (·.add m), fun W => ?_, fun w L B xs hl h => h.drop m (fun e => by omega)⟩
  have hel : P.elem t = e := by simp [Program.elem, ht]
  have hu : P.underlying t = some (.slice (P.elem t)) := by rw [hel]; exact ht
  rw [run_slice_l W t A n c hu kl (m : Int) (Int.natCast_nonneg _) (by omega), hel]
  simp [sizeOf, typeInfo, hi, hsz, sliced, Result.andThen]
/-! ### A row of the call's own -/
theorem own_rd {w : World} {base : Nat} {e : TypeId} {n c : Nat} {A : Option Addr} {vs : List Value} {size : Nat} (h : w.ownsRow base e size (.slice A n c) n vs) : Rd w base w.heap.size A vs := fun hn => by
  have hn' : 0 < n := by
    rcases Nat.eq_zero_or_pos n with h0 | h0
    · subst h0; have := h.1; simp at this; subst this; simp at hn
    · exact h0
  obtain ⟨g, cap, hv, hb, hlt⟩ := h.form hn'
  have hA : A = some ⟨g, 0, none⟩ := by injection hv
  subst hA
  refine ⟨g, 0, rfl, hb, hlt, fun j hj => ?_⟩
  have := h.cells (g := g) rfl j _ (List.getElem?_eq_getElem hj)
  rw [add_plain] at this
  rw [this, List.getElem?_eq_getElem hj]
theorem own_form {w : World} {base : Nat} {e : TypeId} {size n : Nat} {v : Value} {xs : List Value} (h : w.ownsRow base e size v n xs) : ∃ A c, v = .slice A n c ∧ n ≤ c ∧ c ≤ maxLen := by
  rcases h.2 with ⟨rfl, rfl⟩ | ⟨g, cap, cur, rfl, _, _, h1, h2, _⟩
  · exact ⟨none, 0, rfl, by omega, by simp [maxLen]⟩
  · exact ⟨_, cap, rfl, h1, h2⟩
theorem own_base {w : World} {base : Nat} {e : TypeId} {size n : Nat} {v : Value} {xs : List Value} (h : w.ownsRow base e size v n xs) (k : Nat) (hk : v.ownBlock = some k) : base ≤ k := (h.lt k hk).1
theorem own_less {w : World} {base base' : Nat} {e : TypeId} {size n : Nat} {v : Value} {xs : List Value} (h : w.ownsRow base e size v n xs) (hb : base' ≤ base) : w.ownsRow base' e size v n xs := by
  refine ⟨h.1, ?_⟩
  rcases h.2 with h0 | ⟨g, cap, cur, h0, h1, h2⟩
  · exact .inl h0
  · exact .inr ⟨g, cap, cur, h0, by omega, h2⟩
theorem own_below {w w1 : World} {base : Nat} {e : TypeId} {size n : Nat} {v : Value} {xs : List Value} (h : w.ownsRow base e size v n xs) (hb : Below w.heap.size w w1) : w1.ownsRow base e size v n xs :=
  h.kept (row := none) ⟨hb.os, hb.tape, hb.output, hb.size, fun i hi _ => hb.block i hi⟩ (by cases v.ownBlock <;> simp)
theorem grown_of_below {w w1 : World} (h : Below w.heap.size w w1) (row : Option Nat) : w.grownBy w1 row := ⟨h.os, h.tape, h.output, h.size, fun i hi _ => h.block i hi⟩
theorem below_drewN {B : Nat} {a w : World} (h : Below B a w) (n : Nat) : Below B a (w.drewN n) := ⟨h.os, h.tape, h.output, h.size, h.block⟩
theorem below_then {B : Nat} {w w1 w2 : World} (h : Below B w w1) (hB : B ≤ w1.heap.size) (k : Below w1.heap.size w1 w2) : Below B w w2 := h.trans (k.mono hB)
theorem below_cells {W w1 : World} {B : Nat} (hb : Below B W w1) : (∀ b o, b < B → w1.cell? ⟨b, o, none⟩ = W.cell? ⟨b, o, none⟩) ∧ (∀ b o, b < B → w1.frozen? ⟨b, o, none⟩ = W.frozen? ⟨b, o, none⟩) :=
  ⟨fun b o h => hb.cell (p := ⟨b, o, none⟩) h, fun b o h => hb.frozen (p := ⟨b, o, none⟩) h⟩

theorem own_made (W : World) (base : Nat) (e : TypeId) (k : IntKind) (m : Nat) (hb : base ≤ W.heap.size) (hm : m ≤ maxLen) :
    (W.alloc (.cells (madeCells #[.int k 0] m) e)).ownsRow base e 1 (.slice (some ⟨W.heap.size, 0, none⟩) m m) m (nums k (List.replicate m 0)) := by
  have h := World.ownsRow_lit (base := base) (e := e) (size := 1) W (madeCells #[.int k 0] m) m hb hm (by simp [size_madeCells])
  rwa [toList_madeCells_one, ← nums_rep] at h
theorem own_set {W : World} {base g n cap : Nat} {e : TypeId} {k : IntKind} {xs : List Nat} (h : W.ownsRow base e 1 (.slice (some ⟨g, 0, none⟩) n cap) n (nums k xs)) (i x : Nat) :
    (W.setCell ⟨g, i, none⟩ (.int k (x : Int))).ownsRow base e 1 (.slice (some ⟨g, 0, none⟩) n cap) n (nums k (xs.set i x)) ∧ W.grownBy (W.setCell ⟨g, i, none⟩ (.int k (x : Int))) (some g) := by
  have hs := h.stored i (.int k (x : Int))
  rwa [← nums_set] at hs
theorem own_at {W : World} {base g n cap : Nat} {e : TypeId} {k : IntKind} {xs : List Nat} (h : W.ownsRow base e 1 (.slice (some ⟨g, 0, none⟩) n cap) n (nums k xs)) (i : Nat) (h1 : i < n) :
    W.cell? ⟨g, i, none⟩ = some (.int k ((xs.getD i 0 : Nat) : Int)) ∧ W.frozen? ⟨g, i, none⟩ = false := by
  have hl : xs.length = n := by have := h.1; simp [nums] at this; exact this
  exact ⟨by rw [h.cellAt i (by omega), nums_get k xs i (by omega)], h.frozenAt i⟩

theorem own_lit1 (W : World) (base : Nat) (e : TypeId) (v : Value) (hb : base ≤ W.heap.size) : (W.alloc (.cells #[v] e)).ownsRow base e 1 (.slice (some ⟨W.heap.size, 0, none⟩) 1 1) 1 [v] :=
  World.ownsRow_lit (base := base) (e := e) (size := 1) W #[v] 1 hb (by simp [maxLen]) (by simp)
/-! ### make -/
section
variable {P : Program}
theorem mk_num (t e : TypeId) (k : IntKind) (bytes : Nat) (ht : P.underlying t = some (.slice e)) (hinfo : (P.info? e).map (fun i => (i.zero, i.size, i.bytes)) = some (some (.int k 0), 1, bytes)) (hb0 : 0 < bytes)
    (m : Nat) (hn : m * bytes ≤ 281474976710656) :
    ∀ W : World, (Instr.makeSlice t (.int .i64 (m : Int)) (.int .i64 (m : Int))).run P W = .ok (.slice (some ⟨W.heap.size, 0, none⟩) m m) (W.alloc (.cells (madeCells #[.int k 0] m) e)) := by
  intro W
  have hm : m ≤ 281474976710656 := Nat.le_trans (Nat.le_mul_of_pos_right _ hb0) hn
  exact run_make_row' t e (.int k 0) bytes ht hinfo rfl .i64 .i64 m (by rw [Nat.mul_comm]; exact hn) (by omega) W
end

/-! ### append: onto nil or a row of the call's own; the source any slice that reads -/
section
variable {P : Program} (w : World)
theorem run_append_nothing (base : Nat) (t ty e : TypeId) (i : TypeInfo) (size : Nat) (ht : P.underlying t = some (.slice e)) (hi : P.info? e = some i)
    (v : Value) (n : Nat) (xs : List Value) (hown : w.ownsRow base e size v n xs) (A : Option Addr) (c : Nat) (hA : A = none) : (Builtin.append_ #[t, t] ty #[v, .slice A 0 c]).run P w = .ok v w := by
  subst hA
  rcases hown.2 with ⟨rfl, rfl⟩ | ⟨g, cap, cur, rfl, _, _, hnc, _⟩
  · simp [Builtin.append_, run_underlying ht, sizeOf, typeInfo, hi, Builtin.lenOf, Builtin.firstCells]
  · simp [Builtin.append_, run_underlying ht, sizeOf, typeInfo, hi, Builtin.lenOf, Builtin.firstCells, hnc, storeCells]

theorem wpList_append_rd {ops : Array Oper} {rest : List Oper} {o : Oper} {a : Act} {Q : Exit → Act → World → Prop} (hgd : o.guard = none) (s x : Operand) (t : TypeId)
    (ho : o.op = .call { callee := .builtin .append, args := #[s, x], argTypes := #[t, t] })
    (base : Nat) (e : TypeId) (z : Value) (size bytes : Nat) (ht : P.underlying t = some (.slice e)) (hinfo : (P.info? e).map (fun i => (i.zero, i.size, i.bytes)) = some (some z, size, bytes))
    (hzs : z.cells.size = size) (hsz : 0 < size)
    (v : Value) (n : Nat) (xs : List Value) (hs : a.eval s = v) (hown : w.ownsRow base e size v n xs)
    (L B : Nat) (A : Option Addr) (m c : Nat) (news : List Value) (hx : a.eval x = .slice A m c) (hl : news.length = m * size) (hr : Rd w L B A news) (h1 : ∀ u ∈ news, u.oneCell' = true)
    (h63 : n + m ≤ maxLen) (hbytes : (n + m) * bytes ≤ 140737488355328) (hbase : base ≤ w.heap.size)
    (h : ∀ v' w', w'.ownsRow base e size v' (n + m) (xs ++ news) → w.grownBy w' v.ownBlock → (v'.ownBlock = v.ownBlock ∨ v'.ownBlock = some w.heap.size) → (v' = .slice none 0 0 ↔ v = .slice none 0 0 ∧ m = 0 ) → wpList P ops Q rest (a.put o.dst v') w') : wpList P ops Q (o :: rest) a w := by
  obtain ⟨i, hi, hz, hsize, hby⟩ := info_parts hinfo
  have hrun : ∃ v' w', (Builtin.append_ #[t, t] o.type #[v, .slice A m c]).run P w = .ok v' w' ∧ w'.ownsRow base e size v' (n + m) (xs ++ news) ∧ w.grownBy w' v.ownBlock ∧ (v'.ownBlock = v.ownBlock ∨ v'.ownBlock = some w.heap.size) ∧ (v' = .slice none 0 0 ↔ v = .slice none 0 0 ∧ m = 0) := by
    rcases Nat.eq_zero_or_pos m with h0 | h0
    · subst h0
      have hn : news = [] := List.eq_nil_of_length_eq_zero (by simpa using hl)
      subst hn
      rcases A with _ | ad
      · exact ⟨v, w, run_append_nothing w base t o.type e i size ht hi v n xs hown none c rfl, by simpa using hown, World.grownBy.refl w _, .inl rfl, by simp⟩
      · obtain ⟨v', w', hrun, h2, h3, h4, h5⟩ := run_append_own_at (P := P) w base t o.type e i z size bytes ht hi hz hsize hby hzs hsz v n xs hown ad 0 c [] hl (by simp) (by simp) h63 hbytes hbase
        exact ⟨v', w', hrun, h2, h3, h5, h4⟩
    · have hlp : 0 < news.length := by rw [hl]; exact Nat.mul_pos h0 hsz
      obtain ⟨b, off, rfl, _, _, hc⟩ := hr hlp
      have hcells : ∀ j u, news[j]? = some u → w.cell? ((⟨b, off, none⟩ : Addr).add j) = some u := by
        intro j u hu
        have hj : j < news.length := (List.getElem?_eq_some_iff.1 hu).1
        rw [add_plain, hc j hj, hu]
      obtain ⟨v', w', hrun, h2, h3, h4, h5⟩ := run_append_own_at (P := P) w base t o.type e i z size bytes ht hi hz hsize hby hzs hsz v n xs hown _ m c news hl hcells h1 h63 hbytes hbase
      exact ⟨v', w', hrun, h2, h3, h5, h4⟩
  obtain ⟨v', w', hrun, h2, h3, h4, h5⟩ := hrun
  refine wpList_plain hgd fun K hK => ?_
  unfold Oper.wp execOp
  simp only [ho, resolve, invoke, builtin, Sem.run_bind, Sem.run_pure, Result.andThen_ok, List.map_toArray, List.map_cons, List.map_nil, hs, hx, hrun]
  exact hK _ _ (h v' w' h2 h3 h4 h5)
end

/-- 'append(v, y)': the goal's world is that behind the variadic's box. -/
theorem wpList_append_lit {P : Program} {w0 W : World} {ops : Array Oper} {rest : List Oper} {o : Oper} {a : Act} {Q : Exit → Act → World → Prop} (hgd : o.guard = none) (s x : Operand) (t : TypeId)
    (ho : o.op = .call { callee := .builtin .append, args := #[s, x], argTypes := #[t, t] })
    (base : Nat) (e : TypeId) (z : Value) (bytes : Nat) (ht : P.underlying t = some (.slice e)) (hinfo : (P.info? e).map (fun i => (i.zero, i.size, i.bytes)) = some (some z, 1, bytes))
    (hzs : z.cells.size = 1) (v : Value) (n : Nat) (xs : List Value) (y : Value) (hs : a.eval s = v) (hown : W.ownsRow base e 1 v n xs)
    (g : Nat) (hx : a.eval x = .slice (some ⟨g, 0, none⟩) 1 1) (hgW : g = W.heap.size) (h1 : y.oneCell' = true)
    (h63 : n + 1 ≤ maxLen) (hbytes : (n + 1) * bytes ≤ 140737488355328) (hbase : base ≤ W.heap.size) (hbel : Below base w0 W)
    (h : ∀ v' w', w'.ownsRow base e 1 v' (n + 1) (xs ++ [y]) → Below base w0 w' → W.grownBy w' v.ownBlock → (v'.ownBlock = v.ownBlock ∨ ∃ b, v'.ownBlock = some b ∧ W.heap.size ≤ b) → wpList P ops Q rest (a.put o.dst v') w') :
    wpList P ops Q (o :: rest) a (W.alloc (.cells #[y] e)) := by
  subst hgW
  refine wpList_append_rd _ hgd s x t ho base e z 1 bytes ht hinfo hzs (by omega) v n xs hs (hown.alloc _) W.heap.size (W.heap.size + 1) _ 1 1 [y] hx (by simp) (rd_lit _ _ _) (by simpa using h1) h63 hbytes (by simp; omega) ?_
  intro v1 w1 hown1 hg1 hat1 _
  refine h v1 w1 hown1 ((hbel.alloc hbase _).grown hg1 (by simp; omega) (fun k hk => (hown.lt k hk).1)) (World.grownBy.trans (World.grownBy_alloc W _ _) hg1) ?_
  rcases hat1 with e1 | e1
  · exact .inl e1
  · exact .inr ⟨_, e1, by simp⟩
end Go.Proofs.Ytanelmmklnpohaa
