/-
  Walks of the package der: may, May.
  Conditions: none beyond the walks' own.
-/
import Derived.Test.YtanelmmklnpohaaDer1
namespace Go.Proofs.Ytanelmmklnpohaa
open Go.RowKit
set_option linter.unusedVariables false
set_option linter.unusedSimpArgs false

/-- A cell that holds a number, and what a call made of it. -/
def Cnt (w : World) (pb : Nat) (l : Int) : Prop := w.cell? ⟨pb, 0, none⟩ = some (.int .i64 l) ∧ w.frozen? ⟨pb, 0, none⟩ = false
def MayPost (pb : Nat) (w : World) (r : Bool × Int) (e : Ending) (w' : World) : Prop := e = .returned (.bool r.1) ∧ w.grownBy w' (some pb) ∧ Cnt w' pb r.2

theorem cnt_set {w : World} {pb : Nat} {l l' : Int} (h : Cnt w pb l) : Cnt (w.setCell ⟨pb, 0, none⟩ (.int .i64 l')) pb l' :=
  ⟨World.cell?_setCell_same _ _ _ h.1, by rw [World.frozen?_setCell]; exact h.2⟩
theorem cnt_lt {w : World} {pb : Nat} {l : Int} (h : Cnt w pb l) : pb < w.heap.size := World.block_lt_of_cell? w _ h.1
theorem cnt_alloc {w : World} {pb : Nat} {l : Int} (h : Cnt w pb l) (o : Obj) : Cnt (w.alloc o) pb l :=
  ⟨(World.cell?_alloc_lt w o ⟨pb, 0, none⟩ (cnt_lt h)).trans h.1, (World.frozen?_of_block (w := w) (Below.heap_alloc w o pb (cnt_lt h))).trans h.2⟩
theorem only_refl (w : World) (row : Option Nat) : w.grownBy w row := ⟨rfl, rfl, rfl, Nat.le_refl _, fun _ _ _ => rfl⟩
theorem only_alloc {a w : World} {row : Option Nat} (h : a.grownBy w row) (o : Obj) : a.grownBy (w.alloc o) row := h.trans (World.grownBy_alloc w o row)
theorem only_setCell {a w : World} {g : Nat} (h : a.grownBy w (some g)) {p : Addr} (hp : p.block = g ∨ a.heap.size ≤ p.block) (u : Value) : a.grownBy (w.setCell p u) (some g) :=
  ⟨h.os, h.tape, h.output, by simpa [World.setCell] using h.size, fun i hi hne => (Below.heap_setCell w p u i (by
    rintro rfl
    rcases hp with hp | hp
    · exact hne (by rw [hp])
    · omega)).trans (h.block i hi hne)⟩
theorem only_drew {a w : World} {row : Option Nat} (h : a.grownBy w row) : a.grownBy w.drew row := ⟨h.os, h.tape, h.output, h.size, h.block⟩
theorem MayPost.mk {pb : Nat} {w w' : World} {r : Bool × Int} {b : Bool} {l : Int} (h : r = (b, l)) (hg : w.grownBy w' (some pb)) (hc : Cnt w' pb l) : MayPost pb w r (.returned (.bool b)) w' := by
  subst h
  exact ⟨rfl, hg, hc⟩
set_option maxHeartbeats 1000000 in
theorem der_may (m : Nat) : ∀ (n : Nd) (cs : List Value) (d : Nat) (D : Int) (L B pb : Nat) (l : Int) (w : World), D = (d : Int) → sizeN n ≤ m → d ≤ 100 → -1000000 ≤ l → l ≤ 1000000 → RepN w L B n cs → B ≤ pb → B ≤ w.heap.size → Cnt w pb l →
    Calls Try.prog 32 #[.agg cs.toArray, .int .i64 D, .pointer (some ⟨pb, 0, none⟩)] w (MayPost pb w (mayN n d l)) := by
  induction m with
  | zero => intro n cs d D L B pb l w _ hs; have := sizeN_pos n; omega
  | succ m ih =>
    intro n cs d D L B pb l w hD hs hd hl1 hl2 hrep hpb hB hcnt
    subst hD
    obtain ⟨t, b, ks⟩ := n
    have HREP := Lib.hid hrep
    unfold RepN at hrep
    obtain ⟨A, c, A', c', rfl, h1, h2, h3, h4, ⟨hbl, hkl⟩, h5, h6, h7, h8⟩ := hrep
    obtain ⟨hc, hf⟩ := hcnt
    have IH := Lib.hid ih
    have H5 := Lib.hid h5
    have H6 := Lib.hid h6
    have H7 := Lib.hid h7
    have H8 := Lib.hid h8
    have HS := Lib.hid hs
    clear ih h5 h6 h7 h8 hs
    have hlt : pb < w.heap.size := cnt_lt ⟨hc, hf⟩
    have gfin : ∀ o : Obj, w.grownBy ((w.setCell ⟨pb, 0, none⟩ (.int .i64 (l - 1))).alloc o) (some pb) := fun o => only_alloc (only_setCell (only_refl w _) (.inl rfl) _) o
    have cfin : ∀ o : Obj, Cnt ((w.setCell ⟨pb, 0, none⟩ (.int .i64 (l - 1))).alloc o) pb (l - 1) := fun o => cnt_alloc (cnt_set ⟨hc, hf⟩) o
    have GF := Lib.hid gfin
    have CF := Lib.hid cfin
    clear gfin cfin
    by_cases g1 : l - 1 < 0
    · have HM := Lib.hid (show mayN (.mk t b ks) d l = (false, l - 1) by unfold mayN; rw [if_pos (.inl g1)])
      have d1 : decide (l - 1 < 0) = true := decide_eq_true g1
      go_enter Try.func32, Try.ntmps32
      go_wp2
      go_ret
      exact MayPost.mk HM.out (GF.out _) (CF.out _)
    have d1 : decide (l - 1 < 0) = false := decide_eq_false g1
    by_cases g2 : 16 ≤ d
    · have HM := Lib.hid (show mayN (.mk t b ks) d l = (false, l - 1) by unfold mayN; rw [if_pos (.inr g2)])
      have d2 : decide (16 ≤ (d : Int)) = true := decide_eq_true (by omega)
      go_enter Try.func32, Try.ntmps32
      go_wp2
      go_ret
      exact MayPost.mk HM.out (GF.out _) (CF.out _)
    have d2 : decide (16 ≤ (d : Int)) = false := decide_eq_false (by omega)
    have g12 : ¬ (l - 1 < 0 ∨ 16 ≤ d) := by omega
    by_cases g3 : t ≠ 48
    · have d3 : (t != 48) = true := by rw [bne_iff_ne]; exact g3
      have HM := Lib.hid (show mayN (.mk t b ks) d l = (decide (ks.length = 0) && plainB t b, l - 1) by unfold mayN; rw [if_neg g12, if_pos g3])
      clear g12 g3
      rcases Nat.eq_zero_or_pos ks.length with g4 | g4
      · have HM2 := Lib.hid (show mayN (.mk t b ks) d l = (plainB t b, l - 1) by rw [HM.out, g4]; simp)
        have d4 : ((ks.length : Int) == 0) = true := by rw [beq_iff_eq]; omega
        clear g4
        go_enter Try.func32, Try.ntmps32
        go_wp2_with (go_at_call 48; refine (der_plain t b A c L B _ hbl h1 (by exact (H7.out.setCell (.inr hpb) _).alloc (by simpa [World.setCell] using hB) _)).mono ?_; rintro e w' ⟨rfl, rfl⟩)
        go_ret
        exact MayPost.mk HM2.out (GF.out _) (CF.out _)
      · have HM2 := Lib.hid (show mayN (.mk t b ks) d l = (false, l - 1) by rw [HM.out, decide_eq_false (by omega)]; rfl)
        have d4 : ((ks.length : Int) == 0) = false := by rw [beq_eq_false_iff_ne]; omega
        go_enter Try.func32, Try.ntmps32
        go_wp2
        go_ret
        exact MayPost.mk HM2.out (GF.out _) (CF.out _)
    have d3 : (t != 48) = false := by simp; omega
    by_cases g4 : 0 < b.length
    · have HM := Lib.hid (show mayN (.mk t b ks) d l = (false, l - 1) by unfold mayN; rw [if_neg g12, if_neg g3, if_pos g4])
      have d4 : decide (0 < (b.length : Int)) = true := decide_eq_true (by omega)
      clear g12 g3
      go_enter Try.func32, Try.ntmps32
      go_wp2
      go_ret
      exact MayPost.mk HM.out (GF.out _) (CF.out _)
    have d4 : decide (0 < (b.length : Int)) = false := decide_eq_false (by omega)
    have d5 : decide (0 < b.length) = false := decide_eq_false (by omega)
    have HM := Lib.hid (show mayN (.mk t b ks) d l = mayKs ks (d + 1) (l - 1) by unfold mayN; rw [if_neg g12, if_neg g3, if_neg g4])
    clear g12 g3 g4
    go_enter Try.func32, Try.ntmps32
    go_wp2
    go_loopw [8, 43] (fun kp i wr => ∃ (q : Nat) (lq : Int), q ≤ ks.length ∧ i = .int .i64 q ∧ w.grownBy wr (some pb) ∧ Hid (Cnt wr pb lq) ∧ 0 ≤ lq ∧ lq ≤ l ∧ Hid (mayKs (ks.drop q) (d + 1) lq = mayKs ks (d + 1) (l - 1))) (fun kp i _ => ks.length - (intOf i).toNat)
    case atStart => exact ⟨0, l - 1, Nat.zero_le _, rfl, GF.out _, Lib.hid (CF.out _), by omega, by omega, Lib.hid rfl⟩
    case round =>
      obtain ⟨q, lq, hq, rfl, hgw, hcq, hlq0, hlq, hT⟩ := hrel
      have HG := Lib.hid hgw
      clear hgw
      rcases Nat.lt_or_ge q ks.length with hlt2 | hge2
      · obtain ⟨g, off, rfl, hg1, hg2, hks⟩ := H8.out (by omega)
        obtain ⟨k, r, hdr, hdr1, hmem⟩ := drop_cons_lt hlt2
        obtain ⟨v0, v1, v2, k0, k1, k2, hkn⟩ := hks.at_ hdr
        have hkeep : ∀ o, wr.cell? ⟨g, o, none⟩ = w.cell? ⟨g, o, none⟩ := fun o => World.cell?_of_block (HG.out.block g (by omega) (fun e => by injection e with e; omega))
        have c0 := (hkeep _).trans k0
        have c1 := (hkeep _).trans k1
        have c2 := (hkeep _).trans k2
        have HKN := Lib.hid (hkn.grown HG.out hB (fun g' e => by injection e with e; omega))
        have HSZ := Lib.hid (show sizeN k ≤ m by
          have h1 := sizeN_mem hmem
          have h2 := HS.out
          unfold sizeN at h2
          omega)
        have HT2 := Lib.hid (show (if (mayN k (d + 1) lq).1 then mayKs r (d + 1) (mayN k (d + 1) lq).2 else (false, (mayN k (d + 1) lq).2)) = mayKs ks (d + 1) (l - 1) by
          rw [← hT.out, hdr]
          simp only [mayKs])
        have HMI := Lib.hid (may_iff k (d + 1) lq)
        have HD := Lib.hid hdr1
        have HSW := Lib.hid HG.out.size
        have hltw : pb < wr.heap.size := cnt_lt hcq.out
        clear hks k0 k1 k2 hkn hkeep hdr hdr1 hmem hT
        obtain ⟨t1, A1, n1, c1', A2, n2, c2', rfl, rfl, rfl⟩ := HKN.out.form
        go_wp2_with fail
        refine Calls.mono (IH.out k [.int .i64 t1, .slice A1 n1 c1', .slice A2 n2 c2'] (d + 1) _ L B pb lq _ (by omega) HSZ.out (by omega) (by omega) (by omega) (by exact HKN.out.alloc (by have := HSW.out; omega) _) hpb (by have := HSW.out; simp; omega) (by exact cnt_alloc hcq.out _)) ?_
        rintro e w2 ⟨rfl, hgw2, hcw2⟩
        generalize mayN k (d + 1) lq = rr at hcw2 HT2 HMI
        obtain ⟨rb, rl⟩ := rr
        simp only at hcw2 HT2 HMI
        have HG2 := Lib.hid ((only_alloc HG.out _).trans hgw2)
        have HC2 := Lib.hid hcw2
        clear hgw2 hcw2 hcq
        cases rb with
        | true =>
          have hrl := HMI.out.2 rfl
          have hsz2 := (HMI.out.1.1 rfl).2.2
          have HT3 := Lib.hid (show mayKs (ks.drop (q + 1)) (d + 1) rl = mayKs ks (d + 1) (l - 1) by
            rw [← HT2.out, HD.out]
            simp)
          have b1 : 0 ≤ rl := by omega
          have b2 : rl ≤ l := by omega
          clear hrl hsz2
          go_wp2
          go_roundw
          case rel => exact ⟨q + 1, rl, hlt2, by go_num, HG2.out, HC2, b1, b2, HT3⟩
          case measure => simp [intOf]; omega
        | false =>
          have HM2 := Lib.hid (show mayN (.mk t b ks) d l = (false, rl) by
            rw [HM.out, ← HT2.out]
            simp)
          go_wp2
          go_ret
          exact MayPost.mk HM2.out HG2.out HC2.out
      · obtain rfl : q = ks.length := by omega
        have HM2 := Lib.hid (show mayN (.mk t b ks) d l = (true, lq) by
          rw [HM.out, ← hT.out, List.drop_length]
          simp only [mayKs])
        go_wp2
        go_ret
        exact MayPost.mk HM2.out HG.out hcq.out

/-! ### May -/
set_option maxHeartbeats 400000 in
theorem der_May {n : Nd} {cs : List Value} {L B : Nat} {w : World} (h : RepN w L B n cs) (hB : B ≤ w.heap.size) :
    Calls Try.prog 11 #[.agg cs.toArray] w fun e w' => e = .returned (.bool (MayN n)) ∧ Below w.heap.size w w' := by
  have H := Lib.hid h
  cases n with
  | mk t b ks =>
  unfold RepN at h
  obtain ⟨A, c, A', c', rfl, _⟩ := h
  go_enter Try.func11, Try.ntmps11
  go_wp2_with fail
  have hW : RepN ((w.alloc (.cells #[.int .i64 t, .slice A b.length c, .slice A' ks.length c'] 25)).alloc (.cells #[.int .i64 1024] 3)) L B (.mk t b ks) [.int .i64 t, .slice A b.length c, .slice A' ks.length c'] := (H.out.alloc hB _).alloc (by simp; omega) _
  have hC : Cnt ((w.alloc (.cells #[.int .i64 t, .slice A b.length c, .slice A' ks.length c'] 25)).alloc (.cells #[.int .i64 1024] 3)) (w.heap.size + 1) 1024 :=
    ⟨by rw [World.cell?_alloc_at _ _ _ _ (by simp)]; rfl, World.frozen?_alloc_at _ _ _ _ (by simp)⟩
  refine Calls.mono (der_may _ _ _ 0 _ L B (w.heap.size + 1) 1024 _ rfl (Nat.le_refl _) (by omega) (by omega) (by omega) hW (by omega) (by simp; omega) hC) ?_
  rintro e w2 ⟨rfl, hg, hc⟩
  go_wp2
  go_ret
  refine ⟨rfl, ?_⟩
  have h0 := ((Below.refl w.heap.size w).alloc (Nat.le_refl _) (.cells #[.int .i64 t, .slice A b.length c, .slice A' ks.length c'] 25)).alloc (by simp) (.cells #[.int .i64 1024] 3)
  exact h0.grown hg (by simp; omega) (fun k e => by injection e with e; omega)
end Go.Proofs.Ytanelmmklnpohaa
