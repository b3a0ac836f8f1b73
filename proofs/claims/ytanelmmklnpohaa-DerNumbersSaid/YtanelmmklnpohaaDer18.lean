/-
  Walks of the law's 'some' and 'cut': a node that came in is copied, at most so many nodes, 18 deep.
  Conditions: none beyond the walks' own.
-/
import Derived.Test.YtanelmmklnpohaaRead
import Derived.Deep.RegionLaw
namespace Go.Proofs.Ytanelmmklnpohaa
open Go.RowKit
set_option linter.unusedVariables false
set_option linter.unusedSimpArgs false

/-! ### A node that came in: so many levels of it -/
def InH (w : World) (B : Nat) (A : Option Addr) (nb c nk c' : Nat) : Prop :=
  ∃ l : List Nat, nb = l.length ∧ l.length ≤ c ∧ c ≤ maxLen ∧ Dig 256 l ∧ Rd w 0 B A (nums .u8 l) ∧ nk ≤ c' ∧ c' ≤ maxLen
def InN (w : World) (B : Nat) : Nat → List Value → Prop
  | 0, cs => ∃ t A nb c A' nk c', cs = [.int .i64 t, .slice A nb c, .slice A' nk c'] ∧ InH w B A nb c nk c'
  | m + 1, cs => ∃ t A nb c A' nk c', cs = [.int .i64 t, .slice A nb c, .slice A' nk c'] ∧ InH w B A nb c nk c' ∧
      (0 < nk → ∃ g off, A' = some ⟨g, off, none⟩ ∧ g < B ∧ ∀ i, i < nk → ∃ v0 v1 v2, w.cell? ⟨g, off + i * 3, none⟩ = some v0 ∧ w.cell? ⟨g, off + i * 3 + 1, none⟩ = some v1 ∧ w.cell? ⟨g, off + i * 3 + 2, none⟩ = some v2 ∧ InN w B m [v0, v1, v2])
theorem InN.head {w : World} {B : Nat} : ∀ {m : Nat} {cs : List Value}, InN w B m cs → ∃ t A nb c A' nk c', cs = [.int .i64 t, .slice A nb c, .slice A' nk c'] ∧ InH w B A nb c nk c'
  | 0, cs, h => by unfold InN at h; exact h
  | m + 1, cs, h => by
    unfold InN at h
    obtain ⟨t, A, nb, c, A', nk, c', e, h1, _⟩ := h
    exact ⟨t, A, nb, c, A', nk, c', e, h1⟩
theorem InN.kids {w : World} {B m : Nat} {v : Value} {A A' : Option Addr} {nb c nk c' : Nat} (h : InN w B (m + 1) [v, .slice A nb c, .slice A' nk c']) (hn : 0 < nk) :
    ∃ g off, A' = some ⟨g, off, none⟩ ∧ g < B ∧ ∀ i, i < nk → ∃ v0 v1 v2, w.cell? ⟨g, off + i * 3, none⟩ = some v0 ∧ w.cell? ⟨g, off + i * 3 + 1, none⟩ = some v1 ∧ w.cell? ⟨g, off + i * 3 + 2, none⟩ = some v2 ∧ InN w B m [v0, v1, v2] := by
  unfold InN at h
  obtain ⟨t, X, xb, xc, X', xk, xc', e, _, h1⟩ := h
  simp only [List.cons.injEq, Value.slice.injEq, and_true] at e
  obtain ⟨_, ⟨_, _, _⟩, rfl, rfl, rfl⟩ := e
  exact h1 hn
theorem InH.keep {w w' : World} {B : Nat} {A : Option Addr} {nb c nk c' : Nat} (hk : ∀ p : Addr, p.block < B → w'.cell? p = w.cell? p) (h : InH w B A nb c nk c') : InH w' B A nb c nk c' := by
  obtain ⟨l, h1, h2, h3, h4, h5, h6⟩ := h
  exact ⟨l, h1, h2, h3, h4, h5.keep (fun p _ hp => hk p hp), h6⟩
theorem InN.keep {w w' : World} {B : Nat} (hk : ∀ p : Addr, p.block < B → w'.cell? p = w.cell? p) : ∀ {m : Nat} {cs : List Value}, InN w B m cs → InN w' B m cs
  | 0, cs, h => by
    unfold InN at h ⊢
    obtain ⟨t, A, nb, c, A', nk, c', e, h1⟩ := h
    exact ⟨t, A, nb, c, A', nk, c', e, h1.keep hk⟩
  | m + 1, cs, h => by
    unfold InN at h ⊢
    obtain ⟨t, A, nb, c, A', nk, c', e, h1, h2⟩ := h
    refine ⟨t, A, nb, c, A', nk, c', e, h1.keep hk, fun hn => ?_⟩
    obtain ⟨g, off, e2, hg, h3⟩ := h2 hn
    refine ⟨g, off, e2, hg, fun i hi => ?_⟩
    obtain ⟨v0, v1, v2, c0, c1, c2, h4⟩ := h3 i hi
    exact ⟨v0, v1, v2, (hk _ hg).trans c0, (hk _ hg).trans c1, (hk _ hg).trans c2, InN.keep hk h4⟩

theorem run_append_rd {P : Program} (w : World) (ty t : TypeId) (base : Nat) (e : TypeId) (z : Value) (size bytes : Nat) (ht : P.underlying t = some (.slice e)) (hinfo : (P.info? e).map (fun i => (i.zero, i.size, i.bytes)) = some (some z, size, bytes))
    (hzs : z.cells.size = size) (hsz : 0 < size)
    (v : Value) (n : Nat) (xs : List Value) (hown : w.ownsRow base e size v n xs)
    (L B : Nat) (A : Option Addr) (m c : Nat) (news : List Value) (hl : news.length = m * size) (hr : Rd w L B A news) (h1 : ∀ u ∈ news, u.oneCell' = true)
    (h63 : n + m ≤ maxLen) (hbytes : (n + m) * bytes ≤ 140737488355328) (hbase : base ≤ w.heap.size) :
    ∃ v' w', (Builtin.append_ #[t, t] ty #[v, .slice A m c]).run P w = .ok v' w' ∧ w'.ownsRow base e size v' (n + m) (xs ++ news) ∧ w.grownBy w' v.ownBlock ∧ (v'.ownBlock = v.ownBlock ∨ v'.ownBlock = some w.heap.size) ∧ (v' = .slice none 0 0 ↔ v = .slice none 0 0 ∧ m = 0) := by
  obtain ⟨i, hi, hz, hsize, hby⟩ := info_parts hinfo
  rcases Nat.eq_zero_or_pos m with h0 | h0
  · subst h0
    have hn : news = [] := List.eq_nil_of_length_eq_zero (by simpa using hl)
    subst hn
    rcases A with _ | ad
    · exact ⟨v, w, run_append_nothing w base t ty e i size ht hi v n xs hown none c rfl, by simpa using hown, World.grownBy.refl w _, .inl rfl, by simp⟩
    · obtain ⟨v', w', hrun, h2, h3, h4, h5⟩ := run_append_own_at (P := P) w base t ty e i z size bytes ht hi hz hsize hby hzs hsz v n xs hown ad 0 c [] hl (by simp) (by simp) h63 hbytes hbase
      exact ⟨v', w', hrun, h2, h3, h5, h4⟩
  · have hlp : 0 < news.length := by rw [hl]; exact Nat.mul_pos h0 hsz
    obtain ⟨b, off, rfl, _, _, hc⟩ := hr hlp
    have hcells : ∀ j u, news[j]? = some u → w.cell? ((⟨b, off, none⟩ : Addr).add j) = some u := by
      intro j u hu
      have hj : j < news.length := (List.getElem?_eq_some_iff.1 hu).1
      rw [add_plain, hc j hj, hu]
    obtain ⟨v', w', hrun, h2, h3, h4, h5⟩ := run_append_own_at (P := P) w base t ty e i z size bytes ht hi hz hsize hby hzs hsz v n xs hown _ m c news hl hcells h1 h63 hbytes hbase
    exact ⟨v', w', hrun, h2, h3, h5, h4⟩
/-- 'append' at a step of a region that draws its order: the source any slice that reads. -/
theorem step_append_rd {P : Program} (w : World) {ops : Array Oper} {o : Oper} {a : Act} {K : Act → World → Prop} {Q : Exit → Act → World → Prop} {E : Prop} (hgd : o.guard = none) (s x : Operand) (t : TypeId)
    (ho : o.op = .call { callee := .builtin .append, args := #[s, x], argTypes := #[t, t] })
    (base : Nat) (e : TypeId) (z : Value) (size bytes : Nat) (ht : P.underlying t = some (.slice e)) (hinfo : (P.info? e).map (fun i => (i.zero, i.size, i.bytes)) = some (some z, size, bytes))
    (hzs : z.cells.size = size) (hsz : 0 < size)
    (v : Value) (n : Nat) (xs : List Value) (hs : a.eval s = v) (hown : w.ownsRow base e size v n xs)
    (L B : Nat) (A : Option Addr) (m c : Nat) (news : List Value) (hx : a.eval x = .slice A m c) (hl : news.length = m * size) (hr : Rd w L B A news) (h1 : ∀ u ∈ news, u.oneCell' = true)
    (h63 : n + m ≤ maxLen) (hbytes : (n + m) * bytes ≤ 140737488355328) (hbase : base ≤ w.heap.size)
    (h : ∀ v' w', w'.ownsRow base e size v' (n + m) (xs ++ news) → w.grownBy w' v.ownBlock → (v'.ownBlock = v.ownBlock ∨ v'.ownBlock = some w.heap.size) → (v' = .slice none 0 0 ↔ v = .slice none 0 0 ∧ m = 0) → K (a.put o.dst v') w') :
    if Region.wanted o (yielded ops a.tmps) = true then Oper.wp P o a w K Q else E := by
  have hw : Region.wanted o (yielded ops a.tmps) = true := by simp [Region.wanted, hgd]
  rw [if_pos hw]
  obtain ⟨v', w', hrun, h2, h3, h4, h5⟩ := run_append_rd (P := P) w o.type t base e z size bytes ht hinfo hzs hsz v n xs hown L B A m c news hl hr h1 h63 hbytes hbase
  unfold Oper.wp execOp
  simp only [ho, resolve, invoke, builtin, Sem.run_bind, Sem.run_pure, Result.andThen_ok, List.map_toArray, List.map_cons, List.map_nil, hs, hx, hrun]
  exact h v' w' h2 h3 h4 h5

theorem own_rd_at {w : World} {base k : Nat} {e : TypeId} {n c : Nat} {A : Option Addr} {vs : List Value} {size : Nat} (h : w.ownsRow base e size (.slice A n c) n vs) (hk : ∀ g, (Value.slice A n c).ownBlock = some g → k ≤ g) : Rd w k w.heap.size A vs := fun hn => by
  obtain ⟨b, off, rfl, h1, h2, h3⟩ := own_rd h hn
  exact ⟨b, off, rfl, hk b rfl, h2, h3⟩
def SomePost (pb : Nat) (w : World) (l : Int) (e : Ending) (w' : World) : Prop :=
  ∃ n t A1 n1 c1 A2 n2 c2 l', e = .returned (.agg #[.int .i64 t, .slice A1 n1 c1, .slice A2 n2 c2]) ∧ w.grownBy w' (some pb) ∧ Cnt w' pb l' ∧ 0 ≤ l' ∧ l' < l ∧ RepN w' w.heap.size w'.heap.size n [.int .i64 t, .slice A1 n1 c1, .slice A2 n2 c2] ∧ bytesOf n ≤ 200

/-- What one more kid does to what is held: 'x.Kids = append(x.Kids, k)'. -/
theorem some_rel {w wr w2 w3 : World} {S pb gx L1 B1 c2 c5 : Nat} {A1 A2 A5 : Option Addr} {vs cs : List Value} {ks : List Nd} {kd : Nd} {l' : Int} {v0 v1 a0 a1 a2 r0 r1 r2 x0 x1 x2 : Value}
    (hSw : S ≤ wr.heap.size) (hpw : pb < w.heap.size) (hgS : gx < S) (hgw : w.heap.size + 2 ≤ gx)
    (HG : w.grownBy wr (some pb)) (HB : Blk wr gx v0 v1 (.slice A2 ks.length c2)) (HA : Blk wr w.heap.size a0 a1 a2) (HR : Blk wr (w.heap.size + 1) r0 r1 r2)
    (HO : wr.ownsRow S 25 3 (.slice A2 ks.length c2) ks.length cs) (HK : KidsOk wr S (Value.slice A2 ks.length c2).ownBlock ks cs)
    (HD : Rd wr L1 B1 A1 vs) (hL : w.heap.size + 2 ≤ L1) (hB1 : B1 ≤ S) (hgL : gx < L1 ∨ B1 ≤ gx)
    (hg2 : wr.drew.grownBy w2 (some pb)) (hc2 : Cnt w2 pb l') (hrep : RepN w2 wr.drew.heap.size w2.heap.size kd [x0, x1, x2])
    (hg3 : (w2.alloc (.cells #[x0, x1, x2] 25)).grownBy w3 (Value.slice A2 ks.length c2).ownBlock)
    (ho3 : w3.ownsRow S 25 3 (.slice A5 (ks.length + 1) c5) (ks.length + 1) (cs ++ [x0, x1, x2]))
    (hat3 : (Value.slice A5 (ks.length + 1) c5).ownBlock = (Value.slice A2 ks.length c2).ownBlock ∨ (Value.slice A5 (ks.length + 1) c5).ownBlock = some (w2.alloc (.cells #[x0, x1, x2] 25)).heap.size) :
    S ≤ (w3.setCell ⟨gx, 2, none⟩ (.slice A5 (ks.length + 1) c5)).heap.size ∧ w.grownBy (w3.setCell ⟨gx, 2, none⟩ (.slice A5 (ks.length + 1) c5)) (some pb) ∧ Cnt (w3.setCell ⟨gx, 2, none⟩ (.slice A5 (ks.length + 1) c5)) pb l' ∧
      Blk (w3.setCell ⟨gx, 2, none⟩ (.slice A5 (ks.length + 1) c5)) gx v0 v1 (.slice A5 (ks.length + 1) c5) ∧ Blk (w3.setCell ⟨gx, 2, none⟩ (.slice A5 (ks.length + 1) c5)) w.heap.size a0 a1 a2 ∧ Blk (w3.setCell ⟨gx, 2, none⟩ (.slice A5 (ks.length + 1) c5)) (w.heap.size + 1) r0 r1 r2 ∧
      (w3.setCell ⟨gx, 2, none⟩ (.slice A5 (ks.length + 1) c5)).ownsRow S 25 3 (.slice A5 (ks.length + 1) c5) (ks.length + 1) (cs ++ [x0, x1, x2]) ∧
      KidsOk (w3.setCell ⟨gx, 2, none⟩ (.slice A5 (ks.length + 1) c5)) S (Value.slice A5 (ks.length + 1) c5).ownBlock (ks ++ [kd]) (cs ++ [x0, x1, x2]) ∧ Rd (w3.setCell ⟨gx, 2, none⟩ (.slice A5 (ks.length + 1) c5)) L1 B1 A1 vs := by
  have hob : ∀ g, (Value.slice A2 ks.length c2).ownBlock = some g → S ≤ g ∧ g < wr.heap.size := fun g e => HO.lt g e
  have hs2 : wr.heap.size ≤ w2.heap.size := hg2.size
  have hs3 : w2.heap.size + 1 ≤ w3.heap.size := by have := hg3.size; rwa [World.size_alloc] at this
  have hs4 : (w3.setCell ⟨gx, 2, none⟩ (.slice A5 (ks.length + 1) c5)).heap.size = w3.heap.size := by simp [World.setCell]
  -- blocks that stood ahead of the append, other than the row's and gx
  have k3 : ∀ i, i < w2.heap.size → (Value.slice A2 ks.length c2).ownBlock ≠ some i → w3.heap[i]? = w2.heap[i]? := fun i hi hne =>
    (hg3.block i (by rw [World.size_alloc]; omega) (fun e => hne e.symm)).trans (Below.heap_alloc w2 _ i hi)
  have k4 : ∀ i, i ≠ gx → (w3.setCell ⟨gx, 2, none⟩ (.slice A5 (ks.length + 1) c5)).heap[i]? = w3.heap[i]? := fun i hi => Below.heap_setCell w3 ⟨gx, 2, none⟩ _ i hi
  have keep3 : ∀ i, i < wr.heap.size → i ≠ pb → (Value.slice A2 ks.length c2).ownBlock ≠ some i → w3.heap[i]? = wr.heap[i]? := fun i hi h1 h2 =>
    (k3 i (by omega) h2).trans (hg2.block i hi (fun e => by injection e with e; exact h1 e))
  have keep : ∀ i, i < wr.heap.size → i ≠ pb → i ≠ gx → (Value.slice A2 ks.length c2).ownBlock ≠ some i → (w3.setCell ⟨gx, 2, none⟩ (.slice A5 (ks.length + 1) c5)).heap[i]? = wr.heap[i]? := fun i hi h1 h2 h3 =>
    (k4 i h2).trans (keep3 i hi h1 h3)
  have low : ∀ i, i < S → (Value.slice A2 ks.length c2).ownBlock ≠ some i := fun i hi e => by have := hob i e; omega
  have hgb : ∀ g, (Value.slice A5 (ks.length + 1) c5).ownBlock = some g → (Value.slice A2 ks.length c2).ownBlock = some g ∨ w2.heap.size + 1 ≤ g := fun g e => by
    rcases hat3 with h | h
    · exact .inl (h.symm.trans e)
    · rw [e, World.size_alloc] at h
      injection h with h
      exact .inr (by omega)
  refine ⟨by omega, ⟨?_, ?_, ?_, ?_, ?_⟩, ?_, ?_, ?_, ?_, ?_, ?_, ?_⟩
  · exact hg3.os.trans (hg2.os.trans HG.os)
  · exact hg3.tape.trans (hg2.tape.trans HG.tape)
  · exact hg3.output.trans (hg2.output.trans HG.output)
  · have := HG.size; omega
  · intro i hi hne
    have := HG.size
    exact (keep i (by omega) (fun e => hne (by rw [e])) (by omega) (low i (by omega))).trans (HG.block i hi hne)
  · have hp : pb < w2.heap.size := by have := HG.size; omega
    have e3 : w3.heap[pb]? = w2.heap[pb]? := k3 pb hp (low pb (by omega))
    exact cnt_other ⟨(World.cell?_of_block e3).trans hc2.1, (World.frozen?_of_block e3).trans hc2.2⟩ (p := ⟨gx, 2, none⟩) (by show pb ≠ gx; omega) _
  · exact (HB.kept (keep3 gx (by omega) (by omega) (low gx hgS))).set2 _
  · exact HA.kept (keep _ (by omega) (by omega) (by omega) (low _ (by omega)))
  · exact HR.kept (keep _ (by omega) (by omega) (by omega) (low _ (by omega)))
  · exact ownsRow_setCell_below ho3 (a := ⟨gx, 2, none⟩) hgS _
  · refine KidsOk.snoc rfl ⟨wr.heap.size, w2.heap.size, hSw, by omega, fun g e => ?_, ?_⟩ (HK.keep (by omega) (fun p p1 p2 p3 => World.cell?_of_block (keep p.block p2 (by omega) (by omega) p3)) (fun g e => ?_))
    · rcases hgb g e with h | h
      · have := hob g h; omega
      · omega
    · exact RepN.keep (fun p p1 p2 => World.cell?_of_block ((k4 p.block (by omega)).trans (k3 p.block p2 (fun e => by have := hob _ e; omega)))) hrep
    · rcases hgb g e with h | h
      · exact .inl h
      · exact .inr (.inl (by omega))
  · exact HD.keep (fun p p1 p2 => World.cell?_of_block (keep p.block (by omega) (by omega) (by omega) (low _ (by omega))))

set_option maxHeartbeats 4000000 in
set_option maxRecDepth 100000 in
theorem law_some (M : Nat) : ∀ (m : Nat) (cs : List Value) (d : Nat) (D : Int) (B pb : Nat) (l : Int) (w : World), m < M → D = (d : Int) → d + m = 18 → InN w B m cs → B ≤ pb → B ≤ w.heap.size → Cnt w pb l → 1 ≤ l → l ≤ 1000 →
    Calls Try.prog 29 #[.agg cs.toArray, .int .i64 D, .pointer (some ⟨pb, 0, none⟩)] w (SomePost pb w l) := by
  induction M with
  | zero => intro m _ _ _ _ _ _ _ h; omega
  | succ M ih =>
    intro m cs d D B pb l w hm hD hdm hin hpb hB hcnt hl1 hl2
    subst hD
    have IH := Lib.hid ih
    have HIN := Lib.hid hin
    obtain ⟨t, A, nb, c, A', nk, c', rfl, hh⟩ := hin.head
    obtain ⟨bs, rfl, hbc, hcm, hbd, hrd, hkc, hkm⟩ := hh
    have HRD := Lib.hid hrd
    have HBD := Lib.hid hbd
    have HC := Lib.hid hcnt
    have hlt := cnt_lt hcnt
    have HLT := Lib.hid hlt
    clear ih hin hrd hbd hcnt
    obtain ⟨p0, pf0⟩ := HC.out
    have hne0 : pb ≠ w.heap.size := by omega
    have hne1 : pb ≠ w.heap.size + 1 := by omega
    go_enter Try.func29, Try.ntmps29
    go_upto_region 2 with fail
    have CW := Lib.hid (cnt_alloc (cnt_alloc (cnt_set (l' := l - 1) HC.out) (.cells #[.int .i64 t, .slice A bs.length c, .slice A' nk c'] 25)) (.cells #[.int .i64 0, .slice none 0 0, .slice none 0 0] 25))
    have GW := Lib.hid (only_alloc (only_alloc (only_setCell (only_refl w (some pb)) (p := ⟨pb, 0, none⟩) (.inl rfl) (.int .i64 (l - 1))) (.cells #[.int .i64 t, .slice A bs.length c, .slice A' nk c'] 25)) (.cells #[.int .i64 0, .slice none 0 0, .slice none 0 0] 25))
    have hsz : (((w.setCell ⟨pb, 0, none⟩ (.int .i64 (l - 1))).alloc (.cells #[.int .i64 t, .slice A bs.length c, .slice A' nk c'] 25)).alloc (.cells #[.int .i64 0, .slice none 0 0, .slice none 0 0] 25)).heap.size = w.heap.size + 2 := by simp [World.setCell]
    have KA := Lib.hid ((Blk.made (w := w.setCell ⟨pb, 0, none⟩ (.int .i64 (l - 1))) (v0 := .int .i64 t) (v1 := .slice A bs.length c) (v2 := .slice A' nk c') (t := 25) (g := w.heap.size) (by simp [World.setCell])).alloc (.cells #[.int .i64 0, .slice none 0 0, .slice none 0 0] 25))
    have KR := Lib.hid (Blk.made (w := (w.setCell ⟨pb, 0, none⟩ (.int .i64 (l - 1))).alloc (.cells #[.int .i64 t, .slice A bs.length c, .slice A' nk c'] 25)) (v0 := .int .i64 0) (v1 := .slice none 0 0) (v2 := .slice none 0 0) (t := 25) (g := w.heap.size + 1) (by simp [World.setCell]))
    generalize ((w.setCell ⟨pb, 0, none⟩ (.int .i64 (l - 1))).alloc (.cells #[.int .i64 t, .slice A bs.length c, .slice A' nk c'] 25)).alloc (.cells #[.int .i64 0, .slice none 0 0, .slice none 0 0] 25) = W1 at CW GW hsz KA KR ⊢
    have HRD1 := Lib.hid (HRD.out.keep (w' := W1) (fun p _ hp => World.cell?_of_block (GW.out.block p.block (by omega) (fun e => by injection e with e; omega))))
    have HSZ := Lib.hid hsz
    clear p0 pf0 hsz HRD
    go_cut [7] from 14 to 20 (fun v wc => ∃ (gx : Nat) (b : List Nat) (A1 : Option Addr) (c1 L1 B1 : Nat), v = .pointer (some ⟨gx, 0, none⟩) ∧ w.heap.size + 2 ≤ gx ∧ gx < wc.heap.size ∧ w.heap.size + 2 ≤ L1 ∧ B1 ≤ wc.heap.size ∧ (gx < L1 ∨ B1 ≤ gx) ∧ b.length ≤ c1 ∧ c1 ≤ maxLen ∧ b.length ≤ 200 ∧
      Hid (b = [] → A1 = none ∧ c1 = 0) ∧ Hid (Dig 256 b) ∧ Hid (Rd wc L1 B1 A1 (nums .u8 b)) ∧ Hid (Blk wc gx (.int .i64 t) (.slice A1 b.length c1) (.slice none 0 0)) ∧ Hid (Below W1.heap.size W1 wc))
    case first =>
      obtain ⟨⟨a0, a1, a2⟩, af0, af1, af2⟩ := KA.out
      have hlt1 : w.heap.size < W1.heap.size := by have := HSZ.out; omega
      have hlt2 : w.heap.size < W1.heap.size + 1 := by omega
      have hne2 : ¬ w.heap.size = W1.heap.size := by omega
      go_region_held3 (fun w' => w'.cell? ⟨w.heap.size, 0, none⟩ = some (.int .i64 t) ∧ w'.cell? ⟨w.heap.size, 1, none⟩ = some (.slice A bs.length c)) (first | go_keep | (exact ⟨(cell_set3 (p := ⟨w.heap.size, 0, none⟩) (show w.heap.size ≠ W1.heap.size by omega) _ _ _).trans s0, (cell_set3 (p := ⟨w.heap.size, 1, none⟩) (show w.heap.size ≠ W1.heap.size by omega) _ _ _).trans s1⟩))
        (first
          | (go_at_call 13; refine (law_Short bs _ 200 rfl A bs.length c 0 B _ rfl hbc (by first | exact HRD1.out | exact (HRD1.out.drew).alloc (show B ≤ W1.heap.size by have := HSZ.out; omega) _)).mono ?_; rintro e w' ⟨rfl, rfl⟩)
          | (refine step_append_rd _ (by rfl) _ _ _ (by rfl) (w.heap.size + 2) 5 (.int .u8 0) 1 1 Try.underlying22 info_u8 rfl (by omega) (.slice none 0 0) 0 [] (by rfl) (World.ownsRow_nil _ _ _ _)
               0 B A (min bs.length 200) c (nums .u8 (bs.take 200)) (by rfl) (by rw [nums_length, List.length_take, Nat.mul_one, Nat.min_comm]) (by rw [nums_take]; first | exact HRD1.out.take _ | exact ((HRD1.out.drew).alloc (show B ≤ W1.heap.size by have := HSZ.out; omega) _).take _) (nums_one _ _) (by simp only [maxLen]; omega) (by omega) (by have := HSZ.out; simp; omega) ?_
             intro v3 w3 hown3 hg3 hat3 hnil3
             obtain ⟨A3, c3, rfl, hcap3, hmax3⟩ := own_form hown3
             have hcl3 := (fun (b o : Nat) (h : _) => World.grownBy.cell_far hg3 ⟨b, o, none⟩ h (by simp [Value.ownBlock]))
             have hfr3 := (fun (b o : Nat) (h : _) => World.grownBy.frozen_far hg3 ⟨b, o, none⟩ h (by simp [Value.ownBlock]))
             have s0 : w3.cell? ⟨w.heap.size, 0, none⟩ = some (.int .i64 t) := by rw [hcl3 _ _ (by simp; omega)]; first | assumption | (rw [World.cell?_drew, World.cell?_alloc_lt _ _ _ (by simp; omega)]; assumption) | (rw [World.cell?_alloc_lt _ _ _ (by simp; omega)]; assumption)
             have s1 : w3.cell? ⟨w.heap.size, 1, none⟩ = some (.slice A bs.length c) := by rw [hcl3 _ _ (by simp; omega)]; first | assumption | (rw [World.cell?_drew, World.cell?_alloc_lt _ _ _ (by simp; omega)]; assumption) | (rw [World.cell?_alloc_lt _ _ _ (by simp; omega)]; assumption)
             have hlt3 : W1.heap.size ≤ w3.heap.size := by have := hg3.size; simp at this; omega
             have hlt4 : w.heap.size < w3.heap.size := by omega
             have hne4 : ¬ w.heap.size = w3.heap.size := by omega)
          | fail)
      all_goals
        have hlen : (bs.take 200).length = min bs.length 200 := by rw [List.length_take, Nat.min_comm]
        have hnil : bs.take 200 = [] → A3 = none ∧ c3 = 0 := fun e => by
          have h0 : min bs.length 200 = 0 := by rw [← hlen, e]; rfl
          have h1 := hnil3.2 ⟨rfl, h0⟩
          injection h1 with h1 h2 h3
          exact ⟨h1, h3⟩
        simp only [List.nil_append, Nat.zero_add] at hown3 hat3 hcap3
        have HNIL := Lib.hid hnil
        have HLEN := Lib.hid hlen
        have HO3 := Lib.hid hown3
        have HAT3 := Lib.hid hat3
        have HG3 := Lib.hid hg3
        clear hnil hnil3 hlen hown3 hat3 hg3 hcl3 hfr3 s0 s1
      · go_wp2
        go_meet
        case rel =>
          have hsz := HSZ.out
          refine ⟨w3.heap.size, bs.take 200, A3, c3, w.heap.size + 2, w3.heap.size, rfl, by omega, by simp, Nat.le_refl _, by simp, .inr (Nat.le_refl _), by rw [HLEN.out]; exact hcap3, hmax3, by rw [HLEN.out]; omega, HNIL, HBD.out.take 200, (own_rd HO3.out).alloc (Nat.le_refl _) _, by rw [HLEN.out]; exact Blk.made rfl, ?_⟩
          exact (((Below.refl W1.heap.size W1).drew).grown HG3.out (Nat.le_refl _) (fun g e => by simp [Value.ownBlock] at e)).alloc hlt3 _
      all_goals
        go_wp2
        go_meet
        case rel =>
          have hsz := HSZ.out
          have hob : ∀ g, (Value.slice A3 (min bs.length 200) c3).ownBlock = some g → W1.heap.size + 1 ≤ g := fun g e => by
            rcases HAT3.out with h | h
            · rw [e] at h; simp [Value.ownBlock] at h
            · rw [e] at h
              injection h with h
              rw [h]
              show W1.heap.size + 1 ≤ (W1.alloc _).heap.size
              rw [World.size_alloc]
              omega
          have hg3s : W1.heap.size + 1 ≤ w3.heap.size := by
            have := HG3.out.size
            have e : (W1.alloc (.cells #[.int .i64 0, .slice none 0 0, .slice none 0 0] 25)).drew.heap.size = W1.heap.size + 1 := World.size_alloc ..
            omega
          have hblk : Blk w3 W1.heap.size (.int .i64 0) (.slice none 0 0) (.slice none 0 0) :=
            ((Blk.made (w := W1) (v0 := .int .i64 0) (v1 := .slice none 0 0) (v2 := .slice none 0 0) (t := 25) (g := W1.heap.size) rfl).kept (w' := (W1.alloc (.cells #[.int .i64 0, .slice none 0 0, .slice none 0 0] 25)).drew) rfl).grown HG3.out (by simp [Value.ownBlock])
          refine ⟨W1.heap.size, bs.take 200, A3, c3, W1.heap.size + 1, w3.heap.size, rfl, by omega, by rw [size_set3]; omega, by omega, by rw [size_set3]; omega, .inl (by omega), by rw [HLEN.out]; exact hcap3, hmax3, by rw [HLEN.out]; omega, HNIL, HBD.out.take 200, ?_, by rw [HLEN.out]; exact hblk.set3 _ _ _, ?_⟩
          · exact rd_set3 (own_rd_at HO3.out hob) (.inl (by omega)) _ _ _
          · exact below_set3 (((((Below.refl W1.heap.size W1).alloc (Nat.le_refl _) _).drew).grown HG3.out (by show W1.heap.size ≤ (W1.alloc _).heap.size; rw [World.size_alloc]; omega) (fun g e => by simp [Value.ownBlock] at e))) (Nat.le_refl _) _ _ _
    case rest =>
      obtain ⟨gx, b, A1, c1, L1, B1, rfl, hgx1, hgx2, hL1, hB1, hgL, hbc1, hcm1, hb200, HNIL, HDB, HR, HK, HBel⟩ := hcut
      have HBn := Lib.hid (KA.out.below HBel.out KA.out.lt)
      have HRn := Lib.hid (KR.out.below HBel.out KR.out.lt)
      have HCn := Lib.hid (cnt_grown CW.out (grown_of_below HBel.out none) (by simp))
      have HGn := Lib.hid (only_past GW.out (grown_of_below HBel.out none) (by simp))
      obtain ⟨S, hS⟩ : ∃ S, S = wc.heap.size := ⟨_, rfl⟩
      have hS2 : S ≤ wc.heap.size := by omega
      have hgS : gx < S := by omega
      have hBS : B1 ≤ S := by omega
      have hwS : w.heap.size + 2 ≤ S := by omega
      have hbn48 : t = 48 → b = [] → A1 = none ∧ c1 = 0 := fun _ e => HNIL.out e
      have H48 := Lib.hid hbn48
      clear hS hgx2 hB1 hbn48 HBel CW KA KR HRD1 GW
      go_wp2
      go_loopw [8] (fun i wr => ∃ (q : Nat) (lq : Int) (ks : List Nd) (cs : List Value) (A2 : Option Addr) (c2 : Nat), i = .int .i64 q ∧ q ≤ nk ∧ 0 ≤ lq ∧ lq + (ks.length : Int) ≤ l - 1 ∧ S ≤ wr.heap.size ∧ Hid (w.grownBy wr (some pb)) ∧ Hid (Cnt wr pb lq) ∧
          Hid (Blk wr gx (.int .i64 t) (.slice A1 b.length c1) (.slice A2 ks.length c2)) ∧ Hid (Blk wr w.heap.size (.int .i64 t) (.slice A bs.length c) (.slice A' nk c')) ∧ Hid (Blk wr (w.heap.size + 1) (.int .i64 0) (.slice none 0 0) (.slice none 0 0)) ∧
          Hid (wr.ownsRow S 25 3 (.slice A2 ks.length c2) ks.length cs) ∧ Hid (KidsOk wr S (Value.slice A2 ks.length c2).ownBlock ks cs) ∧ Hid (Rd wr L1 B1 A1 (nums .u8 b))) (fun i _ => nk - (intOf i).toNat)
      case atStart => exact ⟨0, l - 1, [], [], none, 0, rfl, Nat.zero_le _, by omega, by simp, hS2, HGn, HCn, HK, HBn, HRn, World.ownsRow_nil _ _ _ _, (by unfold KidsOk; exact rfl), HR⟩
      case round =>
        obtain ⟨q, lq, ks, cs, A2, c2, rfl, hq, hlq0, hlq, hSw, HGq, HCq, HKq, HBq, HRq, HOq, HKO, HRd⟩ := hrel
        clear HGn HCn HK HBn HRn HR
        obtain ⟨⟨k0, k1, k2⟩, kf0, kf1, kf2⟩ := HKq.out
        obtain ⟨⟨a0, a1, a2⟩, af0, af1, af2⟩ := HBq.out
        obtain ⟨p0, pf0⟩ := HCq.out
        have hnk63 : nk ≤ 9223372036854775807 := by unfold maxLen at hkm; omega
        by_cases hgo : q < nk ∧ 0 < lq ∧ d < 18
        · obtain ⟨g1, g2, g3⟩ := hgo
          have e1 : decide ((q : Int) < (nk : Int)) = true := decide_eq_true (by omega)
          have e2 : decide (0 < lq) = true := decide_eq_true g2
          have e3 : decide ((d : Int) < 18) = true := decide_eq_true (by omega)
          obtain ⟨m', rfl⟩ : ∃ y, m = y + 1 := ⟨m - 1, by omega⟩
          obtain ⟨g, off, rfl, hgB, hkid⟩ := HIN.out.kids (by omega)
          obtain ⟨v0, v1, v2, x0, x1, x2, hkn⟩ := hkid q g1
          have hkeep : ∀ o, wr.cell? ⟨g, o, none⟩ = w.cell? ⟨g, o, none⟩ := fun o => World.cell?_of_block (HGq.out.block g (by omega) (fun e => by injection e with e; omega))
          have y0 := (hkeep _).trans x0
          have y1 := (hkeep _).trans x1
          have y2 := (hkeep _).trans x2
          have HKN := Lib.hid (hkn.keep (w' := wr.drew) (fun p hp => World.cell?_of_block (HGq.out.block p.block (by omega) (fun e => by injection e with e; omega))))
          clear hkid x0 x1 x2 hkn hkeep
          have hidx : (q : Int) < (nk : Int) := by omega
          have hw1 : IntKind.i64.wrap ((d : Int) + 1) = (d : Int) + 1 := by rw [IntKind.wrap_i64]; omega
          have hbp : B ≤ pb := hpb
          have hgw : g < wr.heap.size := by omega
          have hgp : g ≠ pb := by omega
          have hww : w.heap.size < wr.heap.size := by omega
          have hwp : w.heap.size ≠ pb := by omega
          have hxw : gx < wr.heap.size := by omega
          have hxp : gx ≠ pb := by omega
          have HOd : Hid (wr.drew.ownsRow S 25 3 (.slice A2 ks.length c2) ks.length cs) := Lib.hid HOq.out
          have HNP := Lib.hid (show ∀ b, b < S → (Value.slice A2 ks.length c2).ownBlock ≠ some b from fun b hb e => by have := (HOq.out.lt _ e).1; omega)
          go_wp2_with fail
          go_region_law
            (first
              | (go_simp
                 go_at_call 29
                 refine Calls.mono (IH.out m' [v0, v1, v2] (d + 1) _ B pb lq _ (by omega) (by omega) (by omega) (by exact HKN.out) hpb (by show B ≤ wr.heap.size; omega) (by exact HCq.out) (by omega) (by omega)) ?_
                 rintro e w2 ⟨kd, t1, A3, n3, c3, A4, n4, c4, l', rfl, hg2, hc2, hl0, hll, hrep, hb2⟩
                 have f2 : ∀ b o, b < wr.heap.size → b ≠ pb → w2.cell? ⟨b, o, none⟩ = wr.cell? ⟨b, o, none⟩ := fun b o h1 h2 => World.grownBy.cell_far hg2 ⟨b, o, none⟩ h1 (fun e => h2 (by injection e))
                 have hf2 : w2.frozen? ⟨gx, 2, none⟩ = false := (World.grownBy.frozen_far hg2 ⟨gx, 2, none⟩ hxw (fun e => hxp (by injection e))).trans kf2
                 have z0 := (f2 _ _ hgw hgp).trans y0
                 have z1 := (f2 _ _ hgw hgp).trans y1
                 have z2 := (f2 _ _ hgw hgp).trans y2
                 have z3 := (f2 _ _ hww hwp).trans a2
                 have z4 := (f2 _ _ hxw hxp).trans k2
                 have hsz2 : wr.heap.size ≤ w2.heap.size := hg2.size
                 have hxw2 : gx < w2.heap.size := by omega
                 have hxn2 : ¬ gx = w2.heap.size := by omega
                 clear f2)
              | (refine step_append_rd _ (by rfl) _ _ _ (by rfl) S 25 (.agg #[.int .i64 0, .slice none 0 0, .slice none 0 0]) 3 56 Try.underlying23 info_node rfl (by omega) (.slice A2 ks.length c2) ks.length cs (by rfl)
                   ((HOd.out.kept hg2 (.inr (HNP.out pb (by omega)))).alloc _) (w2.heap.size) (w2.heap.size + 1) (some ⟨w2.heap.size, 0, none⟩) 1 1 [.int .i64 t1, .slice A3 n3 c3, .slice A4 n4 c4] (by rfl) (by rfl) (by exact rd_lit3 w2 (.int .i64 t1) (.slice A3 n3 c3) (.slice A4 n4 c4) 25) hrep.one.2 (by simp only [maxLen]; omega) (by omega) (by simp; omega) ?_
                 intro v3 w3 hown3 hg3 hat3 hnil3
                 obtain ⟨A5, c5, rfl, hcap3, hmax3⟩ := own_form hown3
                 have f3 : ∀ b o, b < S → w3.cell? ⟨b, o, none⟩ = w2.cell? ⟨b, o, none⟩ := fun b o h1 => (World.grownBy.cell_far hg3 ⟨b, o, none⟩ (by rw [World.size_alloc]; show b < w2.heap.size + 1; omega) (fun e => HNP.out b h1 e.symm)).trans (World.cell?_alloc_lt _ _ _ (by show b < w2.heap.size; omega))
                 have hf3 : w3.frozen? ⟨gx, 2, none⟩ = false := ((World.grownBy.frozen_far hg3 ⟨gx, 2, none⟩ (by rw [World.size_alloc]; show gx < w2.heap.size + 1; omega) (fun e => HNP.out gx hgS e.symm)).trans (frozen?_alloc_cells _ _ _ _)).trans hf2
                 have u0 := (f3 _ _ (show g < S by omega)).trans z0
                 have u1 := (f3 _ _ (show g < S by omega)).trans z1
                 have u2 := (f3 _ _ (show g < S by omega)).trans z2
                 have u3 := (f3 _ _ (show w.heap.size < S by omega)).trans z3
                 have u4 := (f3 _ _ hgS).trans z4
                 clear f3))
          all_goals
            have hrel := some_rel hSw hlt hgS hgx1 HGq.out HKq.out HBq.out HRq.out HOq.out HKO.out HRd.out hL1 hBS hgL hg2 hc2 hrep hg3 hown3 hat3
            have hkl : (ks ++ [kd]).length = ks.length + 1 := by simp
            have HREL := Lib.hid hrel
            have HKL := Lib.hid hkl
            clear hrel hkl hown3 hat3 hnil3 hg3 hg2 hc2 hrep u0 u1 u2 u3 u4 z0 z1 z2 z3 z4 y0 y1 y2 k0 k1 k2 kf0 kf1 kf2 a0 a1 a2 af0 af1 af2 p0 pf0 hf2 hf3 hw1
            go_wp2
            go_roundw
            case rel =>
              obtain ⟨h1, h2, h3, h4, h5, h6, h7, h8, h9⟩ := HREL.out
              exact ⟨q + 1, l', ks ++ [kd], cs ++ [.int .i64 t1, .slice A3 n3 c3, .slice A4 n4 c4], A5, c5, by go_num, by omega, hl0, by rw [HKL.out]; omega, h1, h2, h3, by rw [HKL.out]; exact h4, h5, h6, by rw [HKL.out]; exact h7, by rw [HKL.out]; exact h8, h9⟩
            case measure => simp [intOf]; omega
        · have hw2 : wr.heap.size = wr.heap.size := rfl
          have hend : Hid (∀ (e1 : Bool), True) := Lib.hid fun _ => trivial
          have FIN : Hid (SomePost pb w l (.returned (.agg #[.int .i64 t, .slice A1 b.length c1, .slice A2 ks.length c2])) (((wr.setCell ⟨w.heap.size + 1, 0, none⟩ (.int .i64 t)).setCell ⟨w.heap.size + 1, 1, none⟩ (.slice A1 b.length c1)).setCell ⟨w.heap.size + 1, 2, none⟩ (.slice A2 ks.length c2))) := by
            refine ⟨.mk t b ks, t, A1, b.length, c1, A2, ks.length, c2, lq, rfl, grown_set3 HGq.out (by omega) _ _ _, cnt_set3 HCq.out (by omega) _ _ _, hlq0, by omega, ?_, hb200⟩
            exact RepN.of_kids (lo := S) (base := S) (cs := cs) (by omega) (by omega) (HKO.out.set3 (by omega) _ _ _) (own_set3 HOq.out (by omega) _ _ _) (by omega) hbc1 hcm1 (by omega) H48.out HDB.out ((rd_set3 HRd.out (.inl (by omega)) _ _ _).wide (by omega) (by rw [size_set3]; omega))
          have HQ := Lib.hid (HRq.out.set3 (.int .i64 t) (.slice A1 b.length c1) (.slice A2 ks.length c2))
          obtain ⟨⟨r0, r1, r2⟩, rf0, rf1, rf2⟩ := HRq.out
          clear hw2 hend
          by_cases g1 : q < nk
          · have e1 : decide ((q : Int) < (nk : Int)) = true := decide_eq_true (by omega)
            by_cases g2 : 0 < lq
            · have e2 : decide (0 < lq) = true := decide_eq_true g2
              have e3 : decide ((d : Int) < 18) = false := decide_eq_false (by omega)
              clear hgo
              go_wp2
              refine bodyPost_ret (res_cell1 Try.results29 (g := w.heap.size + 1) rfl HQ.out) rfl ?_
              exact FIN.out
            · have e2 : decide (0 < lq) = false := decide_eq_false g2
              clear hgo
              go_wp2
              refine bodyPost_ret (res_cell1 Try.results29 (g := w.heap.size + 1) rfl HQ.out) rfl ?_
              exact FIN.out
          · have e1 : decide ((q : Int) < (nk : Int)) = false := decide_eq_false (by omega)
            clear hgo
            go_wp2
            refine bodyPost_ret (res_cell1 Try.results29 (g := w.heap.size + 1) rfl HQ.out) rfl ?_
            exact FIN.out
end Go.Proofs.Ytanelmmklnpohaa
