/-
  Walks of der's reference: Eq of equal nodes; strings of bytes.
  Conditions: none beyond the walks' own.
-/
import Derived.Test.YtanelmmklnpohaaDer10
import Derived.StillTailTactics
import Derived.Laws.BytesArg
namespace Go.Proofs.Ytanelmmklnpohaa
open Go.RowKit
set_option linter.unusedVariables false
set_option linter.unusedSimpArgs false

/-- The string of a list of bytes. -/
def strN (l : List Nat) : ByteArray := strOfNums (l.map fun (x : Nat) => (x : Int))
theorem strN_size (l : List Nat) : (strN l).size = l.length := by simp [strN, strOfNums_size]
theorem conv_rd {w : World} {L B c : Nat} {A : Option Addr} {l : List Nat} (h : Rd w L B A (nums .u8 l)) :
    (convert 22 9 (.slice A l.length c)).run Try.prog w = .ok (.string (strN l)) w := by
  rcases Nat.eq_zero_or_pos l.length with h0 | h0
  · have hl : l = [] := List.eq_nil_of_length_eq_zero h0
    subst hl
    rcases A with _ | ⟨b, off, sp⟩
    · exact run_convert_bytes_nil w 22 5 Try.underlying22 rfl 0 c 9 rfl
    · have hz := run_convert_bytes_string (P := Try.prog) w 22 9 5 (some ⟨b, off, sp⟩) 0 c Try.underlying22 rfl rfl
      rw [show ([] : List Nat).length = 0 from rfl, hz]
      simp [Conv.bytesToString, strN, strOfNums, loadCells, loadCellsFrom, go_sem]
      rfl
  · obtain ⟨b, off, rfl, _, _, hc⟩ := h.num (i := 0) h0
    refine run_convert_bytes_arg w 22 5 Try.underlying22 rfl b off l.length c (l.map fun (x : Nat) => (x : Int)) (by simp) (fun i hi => ?_) 9 rfl
    rw [hc i hi]
    simp [hi]
theorem u8map_inj : ∀ {l m : List Nat}, Dig 256 l → Dig 256 m → (l.map fun (x : Nat) => UInt8.ofNat ((x : Int)).toNat) = (m.map fun (x : Nat) => UInt8.ofNat ((x : Int)).toNat) → l = m
  | [], [], _, _, _ => rfl
  | [], y :: m, _, _, e => by simp at e
  | x :: l, [], _, _, e => by simp at e
  | x :: l, y :: m, hl, hm, e => by
    simp only [List.map_cons, List.cons.injEq] at e
    have hx := (Dig.cons.1 hl).1
    have hy := (Dig.cons.1 hm).1
    have e1 : x = y := by
      have := congrArg UInt8.toNat e.1
      simp at this
      omega
    subst e1
    rw [u8map_inj (Dig.cons.1 hl).2 (Dig.cons.1 hm).2 e.2]
theorem strN_inj {l m : List Nat} (hl : Dig 256 l) (hm : Dig 256 m) (h : strN l = strN m) : l = m := by
  have e : (strN l).data.toList = (strN m).data.toList := by rw [h]
  simp only [strN, strOfNums_data, List.map_map] at e
  exact u8map_inj hl hm e

set_option maxHeartbeats 1000000 in
theorem ref_Eq (m : Nat) : ∀ (n : Nd) (cs1 cs2 : List Value) (L1 B1 L2 B2 : Nat) (w : World), sizeN n ≤ m → RepN w L1 B1 n cs1 → RepN w L2 B2 n cs2 → B1 ≤ w.heap.size → B2 ≤ w.heap.size →
    Calls Try.prog 15 #[.agg cs1.toArray, .agg cs2.toArray] w fun e w' => e = .returned (.bool true) ∧ Below w.heap.size w w' := by
  induction m with
  | zero => intro n cs1 cs2 L1 B1 L2 B2 w hs; have := sizeN_pos n; omega
  | succ m ih =>
    intro n cs1 cs2 L1 B1 L2 B2 w hs hrep1 hrep2 hB1 hB2
    obtain ⟨t, b, ks⟩ := n
    have IH := Lib.hid ih
    have HS := Lib.hid hs
    unfold RepN at hrep1 hrep2
    obtain ⟨A, c, A', c', rfl, h1, h2, h3, h4, ⟨hbl, hkl⟩, h5, h6, h7, h8⟩ := hrep1
    obtain ⟨D, k, D', k', rfl, g1, g2, g3, g4, _, g5, g6, g7, g8⟩ := hrep2
    have H7 := Lib.hid h7
    have H8 := Lib.hid h8
    have G7 := Lib.hid g7
    have G8 := Lib.hid g8
    have BB := Lib.hid (((Below.refl w.heap.size w).alloc (Nat.le_refl _) (.cells #[.int .i64 t, .slice A b.length c, .slice A' ks.length c'] 25)).alloc (by simp) (.cells #[.int .i64 t, .slice D b.length k, .slice D' ks.length k'] 25))
    have KA := Lib.hid ((Blk.made (w := w) (v0 := .int .i64 t) (v1 := .slice A b.length c) (v2 := .slice A' ks.length c') (t := 25) (g := w.heap.size) rfl).alloc (.cells #[.int .i64 t, .slice D b.length k, .slice D' ks.length k'] 25))
    have KB := Lib.hid (Blk.made (w := w.alloc (.cells #[.int .i64 t, .slice A b.length c, .slice A' ks.length c'] 25)) (v0 := .int .i64 t) (v1 := .slice D b.length k) (v2 := .slice D' ks.length k') (t := 25) (g := w.heap.size + 1) (by simp))
    clear ih hs h5 g5 h6 g6 h7 g7 h8 g8
    go_enter Try.func15, Try.ntmps15
    go_upto_region 1 with fail
    have hsz : ((w.alloc (.cells #[.int .i64 t, .slice A b.length c, .slice A' ks.length c'] 25)).alloc (.cells #[.int .i64 t, .slice D b.length k, .slice D' ks.length k'] 25)).heap.size = w.heap.size + 2 := by simp
    generalize (w.alloc (.cells #[.int .i64 t, .slice A b.length c, .slice A' ks.length c'] 25)).alloc (.cells #[.int .i64 t, .slice D b.length k, .slice D' ks.length k'] 25) = W1 at BB KA KB hsz ⊢
    have C1 := conv_rd (H7.out.below BB.out (by omega)) (c := c)
    have C2 := conv_rd (G7.out.below BB.out (by omega)) (c := k)
    generalize strN b = sb at C1 C2
    obtain ⟨⟨a0, a1, a2⟩, af0, af1, af2⟩ := KA.out
    obtain ⟨⟨b0, b1, b2⟩, bf0, bf1, bf2⟩ := KB.out
    go_wp2
    have H8W := Lib.hid (fun hp : 0 < ks.length => let ⟨g, off, e, e1, e2, e3⟩ := H8.out hp; (⟨g, off, e, e1, e2, RepKs.keep (fun p p1 p2 => BB.out.cell (show p.block < w.heap.size by omega)) e1 e2 e3⟩ : ∃ g off, A' = some (⟨g, off, none⟩ : Addr) ∧ L1 ≤ g ∧ g < B1 ∧ RepKs W1 L1 B1 g off ks))
    have G8W := Lib.hid (fun hp : 0 < ks.length => let ⟨g, off, e, e1, e2, e3⟩ := G8.out hp; (⟨g, off, e, e1, e2, RepKs.keep (fun p p1 p2 => BB.out.cell (show p.block < w.heap.size by omega)) e1 e2 e3⟩ : ∃ g off, D' = some (⟨g, off, none⟩ : Addr) ∧ L2 ≤ g ∧ g < B2 ∧ RepKs W1 L2 B2 g off ks))
    have HSZ := Lib.hid hsz
    clear C1 C2 H7 G7 H8 G8 a0 a1 a2 af0 af1 af2 b0 b1 b2 bf0 bf1 bf2 hsz
    go_loopw [5] (fun i wr => ∃ q : Nat, q ≤ ks.length ∧ i = .int .i64 q ∧ Hid (Below W1.heap.size W1 wr)) (fun i _ => ks.length - (intOf i).toNat)
    case atStart => exact ⟨0, Nat.zero_le _, rfl, Lib.hid (Below.refl _ _)⟩
    case round =>
      obtain ⟨q, hq, rfl, HG⟩ := hrel
      have KA2 := Lib.hid (KA.out.below HG.out KA.out.lt)
      have KB2 := Lib.hid (KB.out.below HG.out KB.out.lt)
      obtain ⟨⟨a0, a1, a2⟩, af0, af1, af2⟩ := KA2.out
      obtain ⟨⟨b0, b1, b2⟩, bf0, bf1, bf2⟩ := KB2.out
      rcases Nat.lt_or_ge q ks.length with hlt2 | hge2
      · obtain ⟨g, off, rfl, hg1, hg2, hks⟩ := H8W.out (by omega)
        obtain ⟨g', off', rfl, hg1', hg2', hks'⟩ := G8W.out (by omega)
        obtain ⟨kd, r, hdr, hdr1, hmem⟩ := drop_cons_lt hlt2
        obtain ⟨v0, v1, v2, k0, k1, k2, hkn⟩ := hks.at_ hdr
        obtain ⟨u0, u1, u2, j0, j1, j2, hjn⟩ := hks'.at_ hdr
        have hsw := HSZ.out
        have c0 := (HG.out.cell (p := ⟨g, off + q * 3, none⟩) (by show g < _; omega)).trans k0
        have c1 := (HG.out.cell (p := ⟨g, off + q * 3 + 1, none⟩) (by show g < _; omega)).trans k1
        have c2 := (HG.out.cell (p := ⟨g, off + q * 3 + 2, none⟩) (by show g < _; omega)).trans k2
        have d0 := (HG.out.cell (p := ⟨g', off' + q * 3, none⟩) (by show g' < _; omega)).trans j0
        have d1 := (HG.out.cell (p := ⟨g', off' + q * 3 + 1, none⟩) (by show g' < _; omega)).trans j1
        have d2 := (HG.out.cell (p := ⟨g', off' + q * 3 + 2, none⟩) (by show g' < _; omega)).trans j2
        have HKN := Lib.hid (hkn.below HG.out (by omega))
        have HJN := Lib.hid (hjn.below HG.out (by omega))
        have HSK := Lib.hid (show sizeN kd ≤ m by
          have h1 := sizeN_mem hmem
          have h2 := HS.out
          unfold sizeN at h2
          omega)
        clear hks hks' hkn hjn k0 k1 k2 j0 j1 j2 hdr hdr1 hmem
        have hidx : (q : Int) < (ks.length : Int) := by omega
        go_wp2_with fail
        go_still_tail 10, (by kernel_rfl)
        change wpList _ _ _ _ _ wr.drew
        have HG1 := Lib.hid HG.out.drew
        have HKN1 := Lib.hid HKN.out.drew
        have HJN1 := Lib.hid HJN.out.drew
        have hws := HG.out.size
        have hw1 : wr.drew.heap.size = wr.heap.size := rfl
        generalize wr.drew = wd at HG1 HKN1 HJN1 hw1 ⊢
        go_wp2_with fail
        refine Calls.mono (IH.out kd [v0, v1, v2] [u0, u1, u2] L1 B1 L2 B2 wd HSK.out (by exact HKN1.out) (by exact HJN1.out) (by omega) (by omega)) ?_
        rintro e w2 ⟨rfl, hb2⟩
        have HG2 := Lib.hid (below_then HG1.out HG1.out.size hb2)
        go_wp2
        go_roundw
        case rel => exact ⟨q + 1, hlt2, by go_num, HG2⟩
        case measure => simp [intOf]; omega
      · obtain rfl : q = ks.length := by omega
        go_wp2
        go_ret
        exact ⟨rfl, below_then BB.out (by have := HSZ.out; omega) HG.out⟩
end Go.Proofs.Ytanelmmklnpohaa
