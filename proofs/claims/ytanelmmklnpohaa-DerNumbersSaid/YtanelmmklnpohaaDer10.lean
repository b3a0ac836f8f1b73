/-
  Walks of der's reference: get, Read.
  Conditions: none beyond the walks' own.
-/
import Derived.Test.YtanelmmklnpohaaDer9
import Derived.Deep.CutRange
import Derived.Deep.LoopGhost
namespace Go.Proofs.Ytanelmmklnpohaa
open Go.RowKit
set_option linter.unusedVariables false
set_option linter.unusedSimpArgs false

theorem cut_range {P : Program} (t e : TypeId) (kl kh : IntKind) {i : TypeInfo} (ht : P.underlying t = some (.slice e)) (hi : P.info? e = some i) (hsz : i.size = 1) (A : Option Addr) (n c lo m : Nat) (hm : lo + m ≤ n) (hnc : n ≤ c) :
    ∃ A' : Option Addr, (∀ W : World, (Instr.slice t (.slice A n c) (some (.int kl (lo : Int))) (some (.int kh ((lo : Int) + (m : Int)))) none).run P W = .ok (.slice A' m (c - lo)) W) ∧
      ∀ (w : World) (L B : Nat) (xs : List Value), xs.length = n → Rd w L B A xs → Rd w L B A' ((xs.drop lo).take m) := by
  refine ⟨if c = lo then A else A.map (·.add lo), fun W => ?_, fun w L B xs hl h => (h.drop lo (fun e => by omega)).take m⟩
  have hel : P.elem t = e := by simp [Program.elem, ht]
  have hu : P.underlying t = some (.slice (P.elem t)) := by rw [hel]; exact ht
  rw [run_slice_lh W t A n c hu kl kh (lo : Int) ((lo : Int) + (m : Int)) (Int.natCast_nonneg _) (by omega) (by omega), hel]
  have e1 : ((lo : Int) + (m : Int)).toNat - lo = m := by omega
  simp [sizeOf, typeInfo, hi, hsz, sliced, Result.andThen, e1]

def GetInv (w : World) (L B gn d f : Nat) (t : Int) (held : List Nat) (v : Value) (wr : World) : Prop :=
  ∃ (h : List Nat) (fq : Nat) (ks : List Nd) (cs : List Value) (A1 : Option Addr) (c1 : Nat) (A' : Option Addr) (c' : Nat),
    v = .slice A1 h.length c1 ∧ h.length ≤ c1 ∧ c1 ≤ maxLen ∧ Hid (Rd wr L B A1 (nums .u8 h)) ∧ Hid (Dig 256 h) ∧ h.length + 3 ≤ fq ∧ fq ≤ f ∧ Hid (Below w.heap.size w wr) ∧
    Hid (Blk wr gn (.int .i64 t) (.slice none 0 0) (.slice A' ks.length c')) ∧ Hid (Blk wr w.heap.size (.int .i64 0) (.slice none 0 0) (.slice none 0 0)) ∧
    Hid (wr.ownsRow (gn + 1) 25 3 (.slice A' ks.length c') ks.length cs) ∧ Hid (KidsOk wr (gn + 1) (Value.slice A' ks.length c').ownBlock ks cs) ∧ ks.length + h.length ≤ held.length ∧
    Hid (getKs f held d = match getKs fq h d with | some r => some (ks ++ r) | none => none)

set_option maxHeartbeats 4000000 in
set_option maxRecDepth 100000 in
theorem ref_get (m : Nat) : ∀ (f : Nat) (b : List Nat) (A : Option Addr) (c d : Nat) (D : Int) (L B : Nat) (w : World), f ≤ m → D = (d : Int) → b.length + 2 ≤ f → d ≤ 100 → b.length ≤ 1048576 → b.length ≤ c → c ≤ maxLen → Dig 256 b →
    Rd w L B A (nums .u8 b) → B ≤ w.heap.size →
    Calls Try.prog 35 #[.slice A b.length c, .int .i64 D] w (ReadPost w (getN f b d)) := by
  induction m with
  | zero => intros; omega
  | succ m ih =>
    intro f b A c d D L B w hm hD hf hd hbl hbc hcm hdig hrd hB
    obtain ⟨f, rfl⟩ : ∃ f', f = f' + 1 := ⟨f - 1, by omega⟩
    subst hD
    have IH := Lib.hid ih
    have HDG := Lib.hid hdig
    have HRD := Lib.hid hrd
    clear ih hdig hrd
    have B1 := Lib.hid ((Below.refl w.heap.size w).alloc (Nat.le_refl _) (.cells #[.int .i64 0, .slice none 0 0, .slice none 0 0] 25))
    by_cases g1 : 16 < d
    · have HM := Lib.hid (show getN (f + 1) b d = none by unfold getN; rw [if_pos g1])
      have d1 : decide (16 < (d : Int)) = true := decide_eq_true (by omega)
      go_enter Try.func35, Try.ntmps35
      go_wp2
      refine bodyPost_ret (res_cell Try.results35 (g := w.heap.size) rfl (Blk.made rfl)) rfl ?_
      exact ReadPost.no HM.out B1.out
    have d1 : decide (16 < (d : Int)) = false := decide_eq_false (by omega)
    by_cases g2 : b.length < 2
    · have HM := Lib.hid (show getN (f + 1) b d = none by unfold getN; rw [if_neg g1, headB_short g2])
      have d2 : decide ((b.length : Int) < 2) = true := decide_eq_true (by omega)
      go_enter Try.func35, Try.ntmps35
      go_wp2
      refine bodyPost_ret (res_cell Try.results35 (g := w.heap.size) rfl (Blk.made rfl)) rfl ?_
      exact ReadPost.no HM.out B1.out
    have HN := Lib.hid (show getN (f + 1) b d = match headB b with
      | none => none
      | some (t, held, rest) =>
        if t ≠ 48 then (if plainB t held then some (.mk t held [], b.length - rest.length) else none)
        else match getKs f held (d + 1) with
          | some ks => some (.mk t [] ks, b.length - rest.length)
          | none => none by
        rw [getN, if_neg g1]
        rfl)
    have hd16 : d ≤ 16 := by omega
    clear g1
    obtain ⟨x, y, r, rfl⟩ : ∃ x y r, b = x :: y :: r := by
      rcases b with _ | ⟨x, _ | ⟨y, r⟩⟩
      · simp at g2
      · simp at g2
      · exact ⟨x, y, r, rfl⟩
    have HE := Lib.hid (headB_two x y r)
    obtain ⟨b0, off, rfl, hb1, hb2, hcell⟩ := HRD.out.num (i := 0) (by omega)
    have hcell1 : ∀ j, j < (x :: y :: r).length → (w.alloc (.cells #[.int .i64 0, .slice none 0 0, .slice none 0 0] 25)).cell? ⟨b0, off + j, none⟩ = some (.int .u8 (((x :: y :: r).getD j 0 : Nat) : Int)) := fun j hj =>
      (World.cell?_alloc_lt _ _ _ (show b0 < w.heap.size by omega)).trans (hcell j hj)
    replace hcell := hcell1
    have c0 := hcell 0 (by simp)
    have c1 := hcell 1 (by simp)
    have c2 : 0 < r.length → (w.alloc (.cells #[.int .i64 0, .slice none 0 0, .slice none 0 0] 25)).cell? ⟨b0, off + 2, none⟩ = some (.int .u8 ((r.getD 0 0 : Nat) : Int)) := fun h => hcell 2 (by simp; omega)
    rw [Nat.add_zero] at c0
    simp only [List.getD_cons_zero, List.getD_cons_succ] at c0 c1
    have C2 := Lib.hid c2
    have HCL := Lib.hid (fun j (h : j < r.length) => hcell (j + 2) (by simp; omega))
    have hx256 := (Dig.cons.1 HDG.out).1
    have hy := (Dig.cons.1 (Dig.cons.1 HDG.out).2).1
    have HRg := Lib.hid (Dig.cons.1 (Dig.cons.1 HDG.out).2).2
    have hlen : (x :: y :: r).length = r.length + 2 := rfl
    have HL := Lib.hid hlen
    rw [hlen] at hf hbl hbc
    have d2 : decide ((r.length : Int) + 2 < 2) = false := decide_eq_false (by omega)
    clear hcell hcell1 c2 g2
    generalize hbb : x :: y :: r = b at *
    rw [hlen]
    clear hlen
    go_enter Try.func35, Try.ntmps35
    go_upto_if 29 with fail
    go_cut [7, 8] from 19 to 70 (fun a n w' => ∃ (k q : Nat), k ≤ r.length ∧ q < 16777216 ∧ a = .int .i64 (2 + (k : Int)) ∧ n = .int .i64 (q : Int) ∧ w' = w.alloc (.cells #[.int .i64 0, .slice none 0 0, .slice none 0 0] 25) ∧ Hid (headB b = if r.length - k < q then none else some (x, (r.drop k).take q, (r.drop k).drop q)))
    case first =>
      by_cases hy128 : y < 128
      · have HE2 := Lib.hid (show headB b = if r.length < y then none else some (x, r.take y, r.drop y) by rw [HE.out, if_pos hy128])
        have d3 : decide (128 ≤ (y : Int)) = false := decide_eq_false (by omega)
        go_wp2
        go_meet
        case rel => exact ⟨0, y, Nat.zero_le _, by omega, rfl, rfl, rfl, by simpa using HE2⟩
      obtain ⟨k, rfl⟩ : ∃ k, y = k + 128 := ⟨y - 128, by omega⟩
      have HE1 := Lib.hid (show headB b = if k < 1 ∨ 3 < k ∨ r.length < k ∨ r.getD 0 0 = 0 then none
          else if beval (r.take k) < 128 then none
          else if (r.drop k).length < beval (r.take k) then none
          else some (x, (r.drop k).take (beval (r.take k)), (r.drop k).drop (beval (r.take k))) by
        rw [HE.out, if_neg hy128, Nat.add_sub_cancel])
      have d3 : decide (128 ≤ ((k : Int) + 128)) = true := decide_eq_true (by omega)
      have HNn := Lib.hid (fun (e : headB b = none) => show getN (f + 1) b d = none by rw [HN.out, e])
      clear HE
      by_cases g1 : k < 1
      · have HE3 := Lib.hid (HNn.out (by rw [HE1.out, if_pos (.inl g1)]))
        have d4 : decide ((k : Int) < 1) = true := decide_eq_true (by omega)
        go_wp2
        refine bodyPost_ret (res_cell Try.results35 (g := w.heap.size) rfl (Blk.made rfl)) rfl ?_
        exact ReadPost.no HE3.out B1.out
      have d4 : decide ((k : Int) < 1) = false := decide_eq_false (by omega)
      by_cases g2 : 3 < k
      · have HE3 := Lib.hid (HNn.out (by rw [HE1.out, if_pos (.inr (.inl g2))]))
        have d5 : decide (3 < (k : Int)) = true := decide_eq_true (by omega)
        go_wp2
        refine bodyPost_ret (res_cell Try.results35 (g := w.heap.size) rfl (Blk.made rfl)) rfl ?_
        exact ReadPost.no HE3.out B1.out
      have d5 : decide (3 < (k : Int)) = false := decide_eq_false (by omega)
      by_cases g3 : r.length < k
      · have HE3 := Lib.hid (HNn.out (by rw [HE1.out, if_pos (.inr (.inr (.inl g3)))]))
        have d6 : decide ((r.length : Int) + 2 < 2 + (k : Int)) = true := decide_eq_true (by omega)
        go_wp2
        refine bodyPost_ret (res_cell Try.results35 (g := w.heap.size) rfl (Blk.made rfl)) rfl ?_
        exact ReadPost.no HE3.out B1.out
      have d6 : decide ((r.length : Int) + 2 < 2 + (k : Int)) = false := decide_eq_false (by omega)
      have c2 := C2.out (by omega)
      by_cases g4 : r.getD 0 0 = 0
      · have HE3 := Lib.hid (HNn.out (by rw [HE1.out, if_pos (.inr (.inr (.inr g4)))]))
        rw [g4] at c2
        go_wp2
        refine bodyPost_ret (res_cell Try.results35 (g := w.heap.size) rfl (Blk.made rfl)) rfl ?_
        exact ReadPost.no HE3.out B1.out
      have HE2 := Lib.hid (show headB b = if beval (r.take k) < 128 then none
          else if (r.drop k).length < beval (r.take k) then none
          else some (x, (r.drop k).take (beval (r.take k)), (r.drop k).drop (beval (r.take k))) by
        rw [HE1.out, if_neg (by simp only [not_or]; exact ⟨g1, g2, g3, g4⟩)])
      generalize r.getD 0 0 = z at c2 g4
      have d7 : ((z : Int) == 0) = false := lit_beq_false (by omega)
      have HM := Lib.hid (show beval (r.take k) < 16777216 by
        have h1 := beval_lt (HRg.out.take k)
        rw [List.length_take, Nat.min_eq_left (by omega)] at h1
        have h2 : 256 ^ k ≤ 256 ^ 3 := Nat.pow_le_pow_right (by omega) (by omega)
        have h3 : (256 : Nat) ^ 3 = 16777216 := by rfl
        omega)
      clear HE1 g4
      go_wp2
      go_loopg [8, 10] k (fun gg n i wr => wr = w.alloc (.cells #[.int .i64 0, .slice none 0 0, .slice none 0 0] 25) ∧ ∃ q : Nat, q + gg = k ∧ i = .int .i64 q ∧ n = .int .i64 ((beval (r.take q) : Nat) : Int))
      case atStart => exact ⟨rfl, 0, by omega, rfl, by simp [beval]⟩
      case round =>
        obtain ⟨rfl, q, hq, rfl, rfl⟩ := hrel
        cases gk with
        | succ g' =>
          have hqk : q < k := by omega
          have hc := HCL.out q (by omega)
          have e1 : (x :: (k + 128) :: r).getD (q + 2) 0 = r.getD q 0 := rfl
          have hx := HRg.out.get (by omega) q
          have hsucc := beval_take_succ r q (by omega)
          have hlt : beval (r.take q) < 65536 := by
            have h1 := beval_lt (HRg.out.take q)
            rw [List.length_take, Nat.min_eq_left (by omega)] at h1
            have h2 : 256 ^ q ≤ 256 ^ 2 := Nat.pow_le_pow_right (by omega) (by omega)
            have h3 : (256 : Nat) ^ 2 = 65536 := by rfl
            omega
          rw [← hbb, e1] at hc
          generalize r.getD q 0 = v at hc hx hsucc
          have HSU := Lib.hid hsucc
          clear hsucc e1
          generalize hn : beval (r.take q) = n at hlt HSU ⊢
          clear hn
          have hc' : (w.alloc (.cells #[.int .i64 0, .slice none 0 0, .slice none 0 0] 25)).cell? ⟨b0, off + (2 + q), none⟩ = some (.int .u8 (v : Int)) := by rw [Nat.add_comm 2 q]; exact hc
          have d8 : decide ((q : Int) < (k : Int)) = true := decide_eq_true (by omega)
          go_wp2
          go_roundg g'
          case rel =>
            refine ⟨rfl, q + 1, by omega, by go_num, ?_⟩
            rw [HSU.out]
            simp only [Value.int.injEq, true_and]
            omega
          case measure => omega
        | zero =>
          obtain rfl : q = k := by omega
          have hm24 : beval (r.take q) < 16777216 := HM.out
          generalize hm : beval (r.take q) = p at hm24 HE2 ⊢
          by_cases g5 : p < 128
          · have HE3 := Lib.hid (HNn.out (by rw [HE2.out, if_pos g5]))
            have d8 : decide ((p : Int) < 128) = true := decide_eq_true (by omega)
            go_wp2
            refine bodyPost_ret (res_cell Try.results35 (g := w.heap.size) rfl (Blk.made rfl)) rfl ?_
            exact ReadPost.no HE3.out B1.out
          · have d8 : decide ((p : Int) < 128) = false := decide_eq_false (by omega)
            go_wp2
            go_meet
            case rel => exact ⟨q, p, by omega, hm24, rfl, rfl, rfl, Lib.hid (by rw [HE2.out, if_neg g5, List.length_drop])⟩
    case rest =>
      obtain ⟨k, q, hk, hq, rfl, rfl, rfl, HE2⟩ := hcut
      clear HE
      by_cases g1 : r.length - k < q
      · have HM := Lib.hid (show getN (f + 1) b d = none by rw [HN.out, HE2.out, if_pos g1])
        have d3 : decide ((r.length : Int) + 2 - (2 + (k : Int)) < (q : Int)) = true := decide_eq_true (by omega)
        go_wp2
        refine bodyPost_ret (res_cell Try.results35 (g := w.heap.size) rfl (Blk.made rfl)) rfl ?_
        exact ReadPost.no HM.out B1.out
      have d3 : decide ((r.length : Int) + 2 - (2 + (k : Int)) < (q : Int)) = false := decide_eq_false (by omega)
      have HN2 := Lib.hid (show getN (f + 1) b d = if x ≠ 48 then (if plainB x ((r.drop k).take q) then some (.mk x ((r.drop k).take q) [], 2 + k + q) else none)
          else match getKs f ((r.drop k).take q) (d + 1) with
          | some ks => some (.mk x [] ks, 2 + k + q)
          | none => none by
        rw [HN.out, HE2.out, if_neg g1]
        have e : b.length - ((r.drop k).drop q).length = 2 + k + q := by rw [HL.out, List.length_drop, List.length_drop]; omega
        simp only [e])
      obtain ⟨i, hi, hsz⟩ := info_u8_parts
      obtain ⟨A2, hcut, hrd2⟩ := cut_range (P := Try.prog) 22 5 .i64 .i64 Try.underlying22 hi hsz (some ⟨b0, off, none⟩) (r.length + 2) c (2 + k) q (by omega) (by omega)
      rw [show ((2 + k : Nat) : Int) = 2 + (k : Int) from by omega] at hcut
      have HR2 := Lib.hid (show Rd w L B A2 (nums .u8 ((r.drop k).take q)) by
        have := hrd2 w L B (nums .u8 b) (by rw [nums_length]; exact HL.out) HRD.out
        rw [← nums_drop, ← nums_take, ← hbb] at this
        rw [show (x :: (y :: r)).drop (2 + k) = r.drop k from by rw [Nat.add_comm]; rfl] at this
        exact this)
      have HDh := Lib.hid (show Dig 256 ((r.drop k).take q) from (HRg.out.drop k).take q)
      have hql : ((r.drop k).take q).length = q := by rw [List.length_take, List.length_drop]; omega
      generalize (r.drop k).take q = held at HN2 HR2 HDh hql
      obtain rfl : held.length = q := hql
      clear hrd2 HE2 HN HRD
      have hb0w : b0 ≠ w.heap.size := by omega
      have KX := Lib.hid (Blk.made (w := w.alloc (.cells #[.int .i64 0, .slice none 0 0, .slice none 0 0] 25)) (v0 := .int .i64 (x : Int)) (v1 := .slice none 0 0) (v2 := .slice none 0 0) (t := 25) (g := w.heap.size + 1) (by simp))
      have KR := Lib.hid ((Blk.made (w := w) (v0 := .int .i64 0) (v1 := .slice none 0 0) (v2 := .slice none 0 0) (t := 25) (g := w.heap.size) rfl).alloc (.cells #[.int .i64 (x : Int), .slice none 0 0, .slice none 0 0] 25))
      have B2 := Lib.hid (B1.out.alloc (by simp) (.cells #[.int .i64 (x : Int), .slice none 0 0, .slice none 0 0] 25))
      have HR3 := Lib.hid ((HR2.out.alloc hB (.cells #[.int .i64 0, .slice none 0 0, .slice none 0 0] 25)).alloc (by simp; omega) (.cells #[.int .i64 (x : Int), .slice none 0 0, .slice none 0 0] 25))
      by_cases g3 : x ≠ 48
      · have HM := Lib.hid (show getN (f + 1) b d = if plainB x held then some (.mk x held [], 2 + k + held.length) else none by rw [HN2.out, if_pos g3])
        have d4 : ((x : Int) != 48) = true := by rw [bne_iff_ne]; omega
        clear HN2
        go_wp2_with fail
        have hW2 : ((w.alloc (.cells #[.int .i64 0, .slice none 0 0, .slice none 0 0] 25)).alloc (.cells #[.int .i64 (x : Int), .slice none 0 0, .slice none 0 0] 25)).heap.size = w.heap.size + 2 := by simp
        generalize (w.alloc (.cells #[.int .i64 0, .slice none 0 0, .slice none 0 0] 25)).alloc (.cells #[.int .i64 (x : Int), .slice none 0 0, .slice none 0 0] 25) = W2 at KX KR B2 HR3 hW2 ⊢
        have HW2 := Lib.hid hW2
        have HRES := Lib.hid (Blk.made (w := w) (v0 := .int .i64 0) (v1 := .slice none 0 0) (v2 := .slice none 0 0) (t := 25) (g := w.heap.size) rfl)
        clear hW2 C2 HCL c0 c1 B1 HR2
        refine Calls.mono (ref_content x held A2 (c - (2 + k)) L B W2 (by omega) (by omega) (by exact HR3.out)) ?_
        rintro e w' ⟨rfl, rfl⟩
        obtain ⟨⟨k0, k1, k2⟩, kf0, kf1, kf2⟩ := KX.out
        obtain ⟨⟨r0, r1, r2⟩, rf0, rf1, rf2⟩ := KR.out
        cases hpl : plainB x held with
        | false =>
          have HM2 := Lib.hid (show getN (f + 1) b d = none by rw [HM.out, hpl]; rfl)
          clear hpl
          go_wp2
          refine bodyPost_ret (res_cell Try.results35 (g := w.heap.size) rfl (KR.out.set3 _ _ _)) rfl ?_
          exact ReadPost.no HM2.out (below_set3 B2.out (Nat.le_refl _) _ _ _)
        | true =>
          have HM2 := Lib.hid (show getN (f + 1) b d = some (.mk x held [], 2 + k + held.length) by rw [HM.out, hpl]; rfl)
          clear hpl
          go_wp2_with (at_builtin
                       refine wpList_append_rd _ rfl (.const (.slice none 0 0)) (.tmp 98) _ rfl W2.heap.size 5 (.int .u8 0) 1 1 Try.underlying22 info_u8 rfl (by omega) (.slice none 0 0) 0 [] rfl (World.ownsRow_nil _ _ _ _)
                         L B A2 held.length (c - (2 + k)) (nums .u8 held) rfl (by rw [nums_length, Nat.mul_one]) (by exact HR3.out) (nums_one _ _) (by simp only [maxLen]; omega) (by omega) (Nat.le_refl _) ?_
                       intro v3 w3 hown3 hg3 hat3 hnil3
                       rw [Nat.zero_add, List.nil_append] at hown3
                       obtain ⟨A3, c3, rfl, hc3, hm3⟩ := own_form hown3
                       have HO3 := Lib.hid hown3
                       have HG3 := Lib.hid hg3
                       have KX3 := Lib.hid (KX.out.grown hg3 (by simp [Value.ownBlock]))
                       have KR3 := Lib.hid (KR.out.grown hg3 (by simp [Value.ownBlock]))
                       have B3 := Lib.hid (B2.out.grown hg3 (by have := HW2.out; omega) (fun g e => by simp [Value.ownBlock] at e))
                       clear hown3 hg3 hat3 hnil3 k0 k1 k2 kf0 kf1 kf2 r0 r1 r2 rf0 rf1 rf2
                       obtain ⟨⟨k0, k1, k2⟩, kf0, kf1, kf2⟩ := KX3.out
                       obtain ⟨⟨r0, r1, r2⟩, rf0, rf1, rf2⟩ := KR3.out)
          refine bodyPost_ret (res_cell Try.results35 (g := w.heap.size) rfl ((KR3.out.other (p := ⟨w.heap.size + 1, 1, none⟩) (by show w.heap.size ≠ w.heap.size + 1; omega) _).set3 _ _ _)) rfl ?_
          have hw2 := HW2.out
          have hw3 := HG3.out.size
          have hsz : ∀ u0 u1 u2 u3, ((((w3.setCell ⟨w.heap.size + 1, 1, none⟩ u3).setCell ⟨w.heap.size, 0, none⟩ u0).setCell ⟨w.heap.size, 1, none⟩ u1).setCell ⟨w.heap.size, 2, none⟩ u2).heap.size = w3.heap.size := fun u0 u1 u2 u3 => by simp [World.setCell]
          refine ReadPost.yes HM2.out (by omega) (below_set3 (B3.out.setCell (p := ⟨w.heap.size + 1, 1, none⟩) (by show w.heap.size ≤ w.heap.size + 1; omega) _) (Nat.le_refl _) _ _ _) ?_
          refine RepN.of_kids (lo := w3.heap.size) (base := w3.heap.size) (ks := []) (cs := []) (by omega) (by omega) (by unfold KidsOk; rfl) (World.ownsRow_nil _ _ _ _) (by simp) hc3 hm3 (by omega) (fun e => ?_) HDh.out ?_
          · rw [e] at d4; simp at d4
          · rw [hsz]
            exact (rd_set3 ((own_rd HO3.out).setCell (p := ⟨w.heap.size + 1, 1, none⟩) (.inl (by show w.heap.size + 1 < W2.heap.size; omega)) _) (.inl (by omega)) _ _ _).wide (by omega) (Nat.le_refl _)
      · have d4 : ((x : Int) != 48) = false := by simp; omega
        have HM := Lib.hid (show getN (f + 1) b d = match getKs f held (d + 1) with
          | some ks => some (.mk x [] ks, 2 + k + held.length)
          | none => none by rw [HN2.out, if_neg g3])
        clear HN2 g3
        have hW2 : ((w.alloc (.cells #[.int .i64 0, .slice none 0 0, .slice none 0 0] 25)).alloc (.cells #[.int .i64 (x : Int), .slice none 0 0, .slice none 0 0] 25)).heap.size = w.heap.size + 2 := by simp
        have HINV : Hid (GetInv w L B (w.heap.size + 1) (d + 1) f x held (.slice A2 held.length (c - (2 + k))) ((w.alloc (.cells #[.int .i64 0, .slice none 0 0, .slice none 0 0] 25)).alloc (.cells #[.int .i64 (x : Int), .slice none 0 0, .slice none 0 0] 25))) :=
          Lib.hid ⟨held, f, [], [], A2, c - (2 + k), none, 0, rfl, by omega, by omega, HR3.out, HDh.out, by omega, Nat.le_refl _, B2.out, KX.out, KR.out, World.ownsRow_nil _ _ _ _, (by unfold KidsOk; exact rfl), (by simp), (by
            generalize getKs f held (d + 1) = rr
            cases rr <;> exact Lib.hid rfl)⟩
        have hlen48 : held.length ≤ 1048576 := by omega
        clear HR3 HDh B2 KX KR B1 C2 HCL c1 HR2
        go_wp2
        go_loopw [12] (fun v wr => GetInv w L B (w.heap.size + 1) (d + 1) f x held v wr) (fun v _ => lenOfS v)
        case atStart => exact HINV.out
        case round =>
          obtain ⟨h, fq, ks, cs, A1q, c1q, A', c', rfl, hcq1, hcq2, HRq, HDq, hfq1, hfq2, HGq, HBq, HRes, HOq, HKq, hkl, HEq⟩ := hrel
          clear HINV
          have hgnq := HBq.out.lt
          rcases Nat.eq_zero_or_pos h.length with g4 | g4
          · have e4 : decide (0 < (h.length : Int)) = false := decide_eq_false (by omega)
            have e5 : decide (0 < h.length) = false := decide_eq_false (by omega)
            have HM2 := Lib.hid (show getN (f + 1) b d = some (.mk x [] ks, 2 + k + held.length) by
              rw [HM.out, HEq.out]
              obtain ⟨fq', rfl⟩ : ∃ y, fq = y + 1 := ⟨fq - 1, by omega⟩
              rw [getKs, if_pos g4]
              simp)
            obtain ⟨⟨n0, n1, n2⟩, nf0, nf1, nf2⟩ := HBq.out
            obtain ⟨⟨r0, r1, r2⟩, rf0, rf1, rf2⟩ := HRes.out
            go_wp2
            refine bodyPost_ret (res_cell Try.results35 (g := w.heap.size) rfl (HRes.out.set3 _ _ _)) rfl ?_
            refine ReadPost.yes HM2.out (by omega) (below_set3 HGq.out (Nat.le_refl _) _ _ _) ?_
            exact RepN.of_kids (lo := w.heap.size + 1 + 1) (base := w.heap.size + 1 + 1) (cs := cs) (b := []) (by omega) (by omega) (HKq.out.set3 (by omega) _ _ _) (own_set3 HOq.out (by omega) _ _ _) (by omega) (Nat.zero_le _) (Nat.zero_le _) (by simp) (fun _ _ => ⟨rfl, rfl⟩) Dig.nil (by intro h; simp [nums] at h)
          · have e4 : decide (0 < (h.length : Int)) = true := decide_eq_true (by omega)
            have e5 : decide (0 < h.length) = true := decide_eq_true g4
            obtain ⟨fq, rfl⟩ : ∃ y, fq = y + 1 := ⟨fq - 1, by omega⟩
            have HU := Lib.hid (show getKs (fq + 1) h (d + 1) = match getN fq h (d + 1) with
                | some (k, used) => (match getKs fq (h.drop used) (d + 1) with
                  | some ks => some (k :: ks)
                  | none => none)
                | none => none by rw [getKs, if_neg (by omega)]; rfl)
            have HNS := Lib.hid (fun n u => get_spec fq h (d + 1) n u HDq.out)
            have hwq := HGq.out.size
            go_wp2_with fail
            refine Calls.mono (IH.out fq h A1q c1q (d + 1) _ L B _ (by omega) (by omega) (by omega) (by omega) (by omega) (by omega) hcq2 HDq.out (by exact HRq.out) (by omega)) ?_
            rintro e w4 ⟨hb4, tt, A5, n5, c5, A6, n6, c6, rfl, hno4, hyes4⟩
            generalize getN fq h (d + 1) = rr at HU HNS hno4 hyes4 ⊢
            have hs4 := hb4.size
            have HG4 := Lib.hid (below_then HGq.out hwq hb4)
            have HB4 := Lib.hid (HBq.out.below hb4 HBq.out.lt)
            have HRes4 := Lib.hid (HRes.out.below hb4 HRes.out.lt)
            have HNEW := Lib.hid (Blk.made (w := w4) (v0 := .int .i64 tt) (v1 := .slice A5 n5 c5) (v2 := .slice A6 n6 c6) (t := 25) (g := w4.heap.size) rfl)
            have HRes5 := Lib.hid (HRes4.out.alloc (.cells #[.int .i64 tt, .slice A5 n5 c5, .slice A6 n6 c6] 25))
            have HB5 := Lib.hid (HB4.out.alloc (.cells #[.int .i64 tt, .slice A5 n5 c5, .slice A6 n6 c6] 25))
            have HG5 := Lib.hid (HG4.out.alloc (by omega) (.cells #[.int .i64 tt, .slice A5 n5 c5, .slice A6 n6 c6] 25))
            rcases rr with _ | ⟨kd, u⟩
            · have HM2 := Lib.hid (show getN (f + 1) b d = none by rw [HM.out, HEq.out, HU.out])
              clear hyes4 hno4
              obtain ⟨⟨r0, r1, r2⟩, rf0, rf1, rf2⟩ := HRes5.out
              go_wp2
              refine bodyPost_ret (res_cell Try.results35 (g := w.heap.size) rfl (HRes5.out.set3 _ _ _)) rfl ?_
              exact ReadPost.no HM2.out (below_set3 HG5.out (Nat.le_refl _) _ _ _)
            · have hrep4 := hyes4 kd u rfl
              obtain ⟨hu1, _, _, _, hu2, _⟩ := HNS.out kd u rfl
              obtain ⟨i, hi, hsz⟩ := info_u8_parts
              obtain ⟨A7, hcut7, hrd7⟩ := cut_from (P := Try.prog) 22 5 .i64 Try.underlying22 hi hsz A1q h.length c1q u hu1 hcq1
              have HR7 := Lib.hid (show Rd wr L B A7 (nums .u8 (h.drop u)) by
                have := hrd7 wr L B (nums .u8 h) (nums_length _ _) HRq.out
                rw [nums_drop]; exact this)
              have HD7 := Lib.hid (HDq.out.drop u)
              have hl7 : (h.drop u).length = h.length - u := List.length_drop
              have HR4 := Lib.hid hrep4
              have HR1c := Lib.hid hrep4.one.2
              have hob : ∀ g, (Value.slice A' ks.length c').ownBlock = some g → w.heap.size + 1 + 1 ≤ g ∧ g < wr.heap.size := fun g e => HOq.out.lt g e
              have HO5 := Lib.hid ((HOq.out.kept (row := none) (grown_of_below hb4 none) (by cases (Value.slice A' ks.length c').ownBlock <;> simp)).alloc (.cells #[.int .i64 tt, .slice A5 n5 c5, .slice A6 n6 c6] 25))
              have HK5 := Lib.hid (HKq.out.keep (w' := w4.alloc (.cells #[.int .i64 tt, .slice A5 n5 c5, .slice A6 n6 c6] 25)) (gb' := (Value.slice A' ks.length c').ownBlock) (by rw [World.size_alloc]; omega)
                (fun p p1 p2 p3 => (World.cell?_alloc_lt _ _ _ (by omega)).trans (hb4.cell p2)) (fun g e => .inl e))
              have HR5 := Lib.hid (HR4.out.alloc (Nat.le_refl _) (.cells #[.int .i64 tt, .slice A5 n5 c5, .slice A6 n6 c6] 25))
              have HOB := Lib.hid hob
              have hs5 : (w4.alloc (.cells #[.int .i64 tt, .slice A5 n5 c5, .slice A6 n6 c6] 25)).heap.size = w4.heap.size + 1 := by simp
              have HB4c := Lib.hid hb4
              clear hyes4 hno4 hrep4 hrd7 hob hb4 HR4 HB4 HRes4 HG4
              obtain ⟨⟨n0, n1, n2⟩, nf0, nf1, nf2⟩ := HB5.out
              obtain ⟨⟨k0, k1, k2⟩, kf0, kf1, kf2⟩ := HNEW.out
              go_wp2_with (at_builtin
                           refine wpList_append_rd _ rfl (.tmp 120) (.tmp 122) _ rfl (w.heap.size + 1 + 1) 25 (.agg #[.int .i64 0, .slice none 0 0, .slice none 0 0]) 3 56 Try.underlying23 info_node rfl (by omega) (.slice A' ks.length c') _ _ rfl (HO5.out.alloc _)
                             (w4.heap.size + 1) (w4.heap.size + 2) (some ⟨w4.heap.size + 1, 0, none⟩) 1 1 [.int .i64 tt, .slice A5 n5 c5, .slice A6 n6 c6] rfl rfl (by have := rd_lit3 (w4.alloc (.cells #[.int .i64 tt, .slice A5 n5 c5, .slice A6 n6 c6] 25)) (.int .i64 tt) (.slice A5 n5 c5) (.slice A6 n6 c6) 25; rw [World.size_alloc] at this; exact this) HR1c.out (by simp only [maxLen]; omega) (by omega) (by simp; omega) ?_
                           intro v6 w6 hown6 hg6 hat6 hnil6
                           obtain ⟨A6', c6', rfl, hc6, hm6⟩ := own_form hown6
                           have HO6 := Lib.hid hown6
                           have HG6 := Lib.hid hg6
                           have HAT6 := Lib.hid hat6
                           have HB6 := Lib.hid ((HB5.out.alloc (.cells #[.int .i64 tt, .slice A5 n5 c5, .slice A6 n6 c6] 25)).grown hg6 (fun e => by have := HOB.out _ e.symm; omega))
                           clear hown6 hg6 hat6 hnil6 n0 n1 n2 nf0 nf1 nf2 k0 k1 k2 kf0 kf1 kf2
                           obtain ⟨⟨n0, n1, n2⟩, nf0, nf1, nf2⟩ := HB6.out)
              go_roundw
              case rel =>
                have hob := HOB.out
                have hrow : ∀ g, some g = (Value.slice A' ks.length c').ownBlock → w.heap.size + 1 + 1 ≤ g ∧ g < wr.heap.size := fun g e => hob g e.symm
                have hlen1 : (ks ++ [kd]).length = ks.length + 1 := by simp
                have hs6 := HG6.out.size
                rw [World.size_alloc, hs5] at hs6
                have hgb : ∀ g, (Value.slice A6' (ks.length + 1) c6').ownBlock = some g → (Value.slice A' ks.length c').ownBlock = some g ∨ w4.heap.size + 1 ≤ g := fun g e => by
                  rcases HAT6.out with h | h
                  · exact .inl (h.symm.trans e)
                  · rw [e, World.size_alloc, hs5] at h
                    injection h with h
                    omega
                have hcell : ∀ p : Addr, p.block < w4.heap.size + 1 → (Value.slice A' ks.length c').ownBlock ≠ some p.block → p.block ≠ w.heap.size + 1 → (w6.setCell ⟨w.heap.size + 1, 2, none⟩ (.slice A6' (ks.length + 1) c6')).cell? p = (w4.alloc (.cells #[.int .i64 tt, .slice A5 n5 c5, .slice A6 n6 c6] 25)).cell? p := fun p p1 p2 p3 => by
                  rw [World.cell?_setCell_other _ _ _ _ (fun e => by subst e; exact p3 rfl), World.cell?_of_block (HG6.out.block p.block (by rw [World.size_alloc, hs5]; omega) (fun e => p2 e.symm)), World.cell?_alloc_lt _ _ _ (by rw [hs5]; omega)]
                refine ⟨h.drop u, fq, ks ++ [kd], cs ++ [.int .i64 tt, .slice A5 n5 c5, .slice A6 n6 c6], A7, c1q - u, A6', c6', by rw [hl7], by omega, by omega, ?_, HD7.out, by omega, by omega, ?_, ?_, ?_, ?_, ?_, by rw [hlen1]; omega, ?_⟩
                · exact ((((HR7.out.below HB4c.out (by omega)).alloc (by omega) _).alloc (by rw [hs5]; omega) _).grown HG6.out (by rw [World.size_alloc, hs5]; omega) (fun g e => .inr (by have := hrow g e.symm; omega))).setCell (p := ⟨w.heap.size + 1, 2, none⟩) (.inr (by show B ≤ w.heap.size + 1; omega)) _
                · exact ((HG5.out.alloc (by rw [hs5]; omega) _).grown HG6.out (by rw [World.size_alloc, hs5]; omega) (fun g e => by have := hob g e; omega)).setCell (p := ⟨w.heap.size + 1, 2, none⟩) (by show w.heap.size ≤ w.heap.size + 1; omega) _
                · rw [hlen1]; exact HB6.out.set2 _
                · exact ((HRes5.out.alloc _).grown HG6.out (fun e => by have := hrow _ e; omega)).other (p := ⟨w.heap.size + 1, 2, none⟩) (by show w.heap.size ≠ w.heap.size + 1; omega) _
                · rw [hlen1]; exact ownsRow_setCell_below HO6.out (a := ⟨w.heap.size + 1, 2, none⟩) (by show w.heap.size + 1 < w.heap.size + 1 + 1; omega) _
                · rw [hlen1]
                  refine KidsOk.snoc rfl ⟨wr.heap.size, w4.heap.size, by omega, by simp [World.setCell]; omega, fun g e => ?_, ?_⟩ (HK5.out.keep (by simp [World.setCell]; omega) (fun p p1 p2 p3 => hcell p (by rw [hs5] at p2; exact p2) p3 (by omega)) (fun g e => ?_))
                  · rcases hgb g e with h | h
                    · have := hob g h; omega
                    · omega
                  · exact RepN.keep (fun p p1 p2 => hcell p (by omega) (fun e => by have := hob _ e; omega) (by omega)) HR5.out
                  · rcases hgb g e with h | h
                    · exact .inl h
                    · exact .inr (.inl (by rw [hs5]; omega))
                · show getKs f held (d + 1) = _
                  rw [HEq.out, HU.out]
                  generalize getKs fq (h.drop u) (d + 1) = r2
                  cases r2 <;> simp
              case measure => simp [lenOfS]; omega

set_option maxHeartbeats 1000000 in
theorem ref_Read {b : List Nat} {A : Option Addr} {c L B : Nat} {w : World} (h : Rd w L B A (nums .u8 b)) (hB : B ≤ w.heap.size) (hbl : b.length ≤ 1048570) (hbc : b.length ≤ c) (hcm : c ≤ maxLen) (hd : Dig 256 b) :
    Calls Try.prog 16 #[.slice A b.length c] w (ReadPost w (RefRead b)) := by
  have H := Lib.hid h
  have HD := Lib.hid hd
  clear h hd
  have hR := Lib.hid (show RefRead b = match getN (b.length + 2) b 1 with
    | some (x, u) => if 65536 < u ∨ RefMay x = false then none else some (x, u)
    | none => none from rfl)
  have B1 := Lib.hid ((Below.refl w.heap.size w).alloc (Nat.le_refl _) (.cells #[.int .i64 0, .slice none 0 0, .slice none 0 0] 25))
  have K1 := Lib.hid (Blk.made (w := w) (v0 := .int .i64 0) (v1 := .slice none 0 0) (v2 := .slice none 0 0) (t := 25) (g := w.heap.size) rfl)
  have H1 := Lib.hid (H.out.alloc hB (.cells #[.int .i64 0, .slice none 0 0, .slice none 0 0] 25))
  have hs1 : (w.alloc (.cells #[.int .i64 0, .slice none 0 0, .slice none 0 0] 25)).heap.size = w.heap.size + 1 := by simp
  go_enter Try.func16, Try.ntmps16
  go_wp2_with fail
  generalize w.alloc (.cells #[.int .i64 0, .slice none 0 0, .slice none 0 0] 25) = W1 at B1 K1 H1 hs1 ⊢
  have S1 := Lib.hid hs1
  clear hs1 H
  refine Calls.mono (ref_get _ (b.length + 2) b A c 1 _ L B W1 (Nat.le_refl _) rfl (Nat.le_refl _) (by omega) (by omega) hbc hcm HD.out (by exact H1.out) (by have := S1.out; omega)) ?_
  rintro e w2 ⟨hb2, t, A1, n1, c1, A2, n2, c2, rfl, hno, hyes⟩
  generalize getN (b.length + 2) b 1 = rr at hR hno hyes ⊢
  have BB := Lib.hid (below_then B1.out (by have := S1.out; omega) hb2)
  have KK := Lib.hid (K1.out.below hb2 K1.out.lt)
  have SS := Lib.hid hb2.size
  have K3 := Lib.hid (Blk.made (w := w2) (v0 := .int .i64 t) (v1 := .slice A1 n1 c1) (v2 := .slice A2 n2 c2) (t := 25) (g := w2.heap.size) rfl)
  have KK3 := Lib.hid (KK.out.alloc (.cells #[.int .i64 t, .slice A1 n1 c1, .slice A2 n2 c2] 25))
  have BB3 := Lib.hid (BB.out.alloc (by have := S1.out; have := SS.out; omega) (.cells #[.int .i64 t, .slice A1 n1 c1, .slice A2 n2 c2] 25))
  have hne : w.heap.size ≠ w2.heap.size := by have := S1.out; have := SS.out; omega
  obtain ⟨⟨k0, k1, k2⟩, kf0, kf1, kf2⟩ := KK3.out
  obtain ⟨⟨q0, q1, q2⟩, qf0, qf1, qf2⟩ := K3.out
  rcases rr with _ | ⟨n, u⟩
  · have HR2 := Lib.hid (show RefRead b = none by rw [hR.out])
    clear hR hyes hno hb2
    go_wp2
    refine bodyPost_ret (res_cell Try.results16 (g := w.heap.size) rfl (KK3.out.set3 _ _ _)) rfl ?_
    exact ReadPost.no HR2.out (below_set3 BB3.out (Nat.le_refl _) _ _ _)
  · have hrep := hyes n u rfl
    have HR2 := Lib.hid (show RefRead b = if 65536 < u ∨ MayN n = false then none else some (n, u) by rw [hR.out, may_ref])
    have HRP := Lib.hid (hrep.alloc (Nat.le_refl _) (.cells #[.int .i64 t, .slice A1 n1 c1, .slice A2 n2 c2] 25))
    clear hR hyes hno hb2 hrep
    by_cases g : 65536 < u
    · have d1 : decide (65536 < (u : Int)) = true := decide_eq_true (by omega)
      have HR3 := Lib.hid (show RefRead b = none by rw [HR2.out, if_pos (.inl g)])
      go_wp2
      refine bodyPost_ret (res_cell Try.results16 (g := w.heap.size) rfl (KK3.out.set3 _ _ _)) rfl ?_
      exact ReadPost.no HR3.out (below_set3 BB3.out (Nat.le_refl _) _ _ _)
    · have d1 : decide (65536 < (u : Int)) = false := decide_eq_false (by omega)
      go_wp2_with fail
      have hs3 : (w2.alloc (.cells #[.int .i64 t, .slice A1 n1 c1, .slice A2 n2 c2] 25)).heap.size = w2.heap.size + 1 := by simp
      generalize w2.alloc (.cells #[.int .i64 t, .slice A1 n1 c1, .slice A2 n2 c2] 25) = W3 at *
      have S3 := Lib.hid hs3
      clear hs3 k0 k1 k2 kf0 kf1 kf2 q0 q1 q2 qf0 qf1 qf2
      refine Calls.mono (ref_May HRP.out (by have := S3.out; omega)) ?_
      rintro e w4 ⟨rfl, hb4⟩
      have KK4 := Lib.hid (KK3.out.below hb4 KK3.out.lt)
      have K4 := Lib.hid (K3.out.below hb4 K3.out.lt)
      have BB4 := Lib.hid (below_then BB3.out (by have := S3.out; have := S1.out; have := SS.out; omega) hb4)
      have HR4 := Lib.hid (HRP.out.below hb4 (by have := S3.out; omega))
      have S4 := Lib.hid hb4.size
      clear hb4
      obtain ⟨⟨k0, k1, k2⟩, kf0, kf1, kf2⟩ := KK4.out
      obtain ⟨⟨q0, q1, q2⟩, qf0, qf1, qf2⟩ := K4.out
      cases hm : MayN n with
      | false =>
        have HR3 := Lib.hid (show RefRead b = none by rw [HR2.out, if_pos (.inr hm)])
        go_wp2
        refine bodyPost_ret (res_cell Try.results16 (g := w.heap.size) rfl (KK4.out.set3 _ _ _)) rfl ?_
        exact ReadPost.no HR3.out (below_set3 BB4.out (Nat.le_refl _) _ _ _)
      | true =>
        have HR3 := Lib.hid (show RefRead b = some (n, u) by rw [HR2.out, if_neg (by rw [hm]; simp; omega)])
        go_wp2
        refine bodyPost_ret (res_cell Try.results16 (g := w.heap.size) rfl (KK4.out.set3 _ _ _)) rfl ?_
        refine ReadPost.yes HR3.out rfl (below_set3 BB4.out (Nat.le_refl _) _ _ _) ?_
        exact RepN.wide (by have := S1.out; omega) (by rw [size_set3]; have := S4.out; have := S3.out; omega) (RepN.keep (fun p p1 p2 => cell_set3 (by have := S1.out; omega) _ _ _) HR4.out)
end Go.Proofs.Ytanelmmklnpohaa
