/- Layer 12: down of container/heap, over the list's heap. -/
import Derived.Test.YtllkeifldfmbkaaDueE
namespace Go.Proofs.Ytllkeifldfmbkaa
open Go.RowKit

def DownP (w : World) (lb : Nat) (c1 c2 c3 av : Value) (hs : List Nd) (i0 n : Nat) (e : Ending) (w' : World) : Prop :=
  e = .returned (.bool (decide (i0 < (downL hs.length hs i0 n).2))) ∧ LstM w' lb c1 c2 c3 av (downL hs.length hs i0 n).1 ∧ Chg (fun b => av.ownBlock = some b ∨ b ∈ hs.map (·.b)) w w'
/-- What the loop of down keeps. -/
def DownI (w : World) (lb : Nat) (c1 c2 c3 av : Value) (hs : List Nd) (i0 n m : Nat) (iv : Value) (wr : World) : Prop :=
  ∃ (ks : List Nd) (i : Nat), m = n - i ∧ iv = .int .i64 (i : Int) ∧ i ≤ n ∧ ks.length = hs.length ∧ LstM wr lb c1 c2 c3 av ks ∧ ks.Perm hs ∧ downL hs.length ks i n = downL hs.length hs i0 n ∧ Chg (fun b => av.ownBlock = some b ∨ b ∈ hs.map (·.b)) w wr
theorem downI_end {w wr : World} {lb : Nat} {c1 c2 c3 av : Value} {hs ks : List Nd} {i0 n i : Nat} (hL : LstM wr lb c1 c2 c3 av ks) (hd : downL hs.length ks i n = downL hs.length hs i0 n) (hch : Chg (fun b => av.ownBlock = some b ∨ b ∈ hs.map (·.b)) w wr)
    (hs0 : n ≤ 2 * i + 1 ∨ lessL ks (kid ks n i) i = false) : DownP w lb c1 c2 c3 av hs i0 n (.returned (.bool (decide (i0 < i)))) wr := by
  have e : downL hs.length ks i n = (ks, i) := by
    cases hs.length with
    | zero => rfl
    | succ f => simp only [downL]; rw [if_pos hs0]
  rw [e] at hd
  unfold DownP
  rw [← hd]
  exact ⟨rfl, hL, hch⟩
theorem downI_next {w wr w4 : World} {lb : Nat} {c1 c2 c3 av : Value} {hs ks : List Nd} {i0 n i j : Nat} (hL : LstM wr lb c1 c2 c3 av ks) (hkl : ks.length = hs.length) (hp : ks.Perm hs) (hd : downL hs.length ks i n = downL hs.length hs i0 n)
    (hch : Chg (fun b => av.ownBlock = some b ∨ b ∈ hs.map (·.b)) w wr) (hn : n ≤ hs.length) (h1 : 2 * i + 1 < n) (hj : j = kid ks n i) (hlt : lessL ks j i = true) (hH : HeapM w4 av (swapL ks i j)) (hc : Chg (fun b => av.ownBlock = some b ∨ b ∈ ks.map (·.b)) wr w4) :
    DownI w lb c1 c2 c3 av hs i0 n (n - j) (.int .i64 (j : Int)) w4 := by
  subst hj
  have hmem : ∀ b, b ∈ ks.map (·.b) ↔ b ∈ hs.map (·.b) := fun b => (hp.map (·.b)).mem_iff
  obtain ⟨k1, k2⟩ := kid_lt (l := ks) h1
  refine ⟨swapL ks i (kid ks n i), kid ks n i, rfl, rfl, by omega, by rw [swapL_len, hkl], hL.keep hH hc, (swapL_perm _ _ _).trans hp, ?_, hch.trans (hc.mono (fun b hb => by rcases hb with hb | hb; exact .inl hb; exact .inr ((hmem b).1 hb)))⟩
  rw [← hd]
  obtain ⟨f, hf⟩ : ∃ f, hs.length = f + 1 := ⟨hs.length - 1, by omega⟩
  have e : downL hs.length ks i n = downL f (swapL ks i (kid ks n i)) (kid ks n i) n := by
    rw [hf]
    simp only [downL]
    rw [if_neg (by rw [hlt]; simp; omega)]
  rw [e]
  exact downL_fuel n _ _ _ _ (by omega) (by omega)

set_option maxRecDepth 100000 in
set_option maxHeartbeats 2000000 in
theorem down_any (lb : Nat) (c1 c2 c3 av : Value) (hs : List Nd) (i0 n : Nat) (w : World) (h : LstM w lb c1 c2 c3 av hs) (hi : i0 ≤ n) (hn : n ≤ hs.length) (hl : hs.length ≤ 100000) :
    Calls Try.prog 54 #[face lb, .int .i64 (i0 : Int), .int .i64 (n : Int)] w (DownP w lb c1 c2 c3 av hs i0 n) := by
  obtain ⟨A, c, rfl, _⟩ := h.heap.av_form
  replace h := hid h
  have hml := fun k W => meth_less k W lb (A := A) (n := hs.length) (c := c)
  have hms := fun k W => meth_swap k W lb (A := A) (n := hs.length) (c := c)
  have hnb : n ≤ 100000 := by omega
  unfold face
  go_enter Try.func54, Try.ntmps54
  go_wp2_with fail
  go_loopg [7] (n - i0) (fun m iv wr => DownI w lb c1 c2 c3 (.slice A hs.length c) hs i0 n m iv wr)
  case atStart => exact ⟨hs, i0, rfl, rfl, hi, rfl, h.out, List.Perm.refl _, rfl, Chg.refl _ _⟩
  case round =>
    obtain ⟨ks, i, rfl, rfl, hin, hkl, hL, hp, hd, hch⟩ := hrel
    have l0 : wr.cell? ⟨lb, 0, none⟩ = some (.slice A hs.length c) := hL.blk.cell 0
    have hll := hL.blk.lt
    replace hL := hid hL
    replace hp := hid hp
    replace hd := hid hd
    replace hch := hid hch
    replace hkl := hid hkl
    by_cases h1 : n ≤ 2 * i + 1
    · have hfin := hid (downI_end hL.out hd.out hch.out (.inl h1))
      have t1 : decide ((n : Int) ≤ 2 * (i : Int) + 1) = true := by simp; omega
      go_wp2
      go_returns
      exact hfin.out
    · have t1 : decide ((n : Int) ≤ 2 * (i : Int) + 1) = false := by simp; omega
      have t2 : decide (2 * (i : Int) + 1 < 0) = false := by simp; omega
      by_cases h2 : 2 * i + 2 < n
      · have hPk : ∀ W, Below wr.heap.size wr W → Calls Try.prog 116 #[.slice A hs.length c, .int .i64 (2 * (i : Int) + 1 + 1), .int .i64 (2 * (i : Int) + 1)] W fun e w' => e = .returned (.bool (lessL ks (2 * i + 2) (2 * i + 1))) ∧ Below W.heap.size W w' := by
          intro W hW
          have := hlessZ _ ks (2 * (i : Int) + 1 + 1) (2 * (i : Int) + 1) W (hL.out.heap.next hW) (by omega) (by have := hkl.out; omega) (by omega) (by have := hkl.out; omega)
          rwa [show (2 * (i : Int) + 1 + 1).toNat = 2 * i + 2 by omega, show (2 * (i : Int) + 1).toNat = 2 * i + 1 by omega] at this
        cases hkk : lessL ks (2 * i + 2) (2 * i + 1)
        · rw [hkk] at hPk
          have hkid : kid ks n i = 2 * i + 1 := by unfold kid; rw [if_neg (by rw [hkk]; simp)]
          replace hPk := hid hPk
          replace hkid := hid hkid
          clear hkk
          have hPl : ∀ W, Below wr.heap.size wr W → Calls Try.prog 116 #[.slice A hs.length c, .int .i64 (2 * (i : Int) + 1), .int .i64 (i : Int)] W fun e w' => e = .returned (.bool (lessL ks (2 * i + 1) i)) ∧ Below W.heap.size W w' := by
            intro W hW
            have := hlessZ _ ks (2 * (i : Int) + 1) (i : Int) W (hL.out.heap.next hW) (by omega) (by have := hkl.out; omega) (by omega) (by have := hkl.out; omega)
            rwa [show (2 * (i : Int) + 1).toNat = 2 * i + 1 by omega, Int.toNat_natCast] at this
          have hPs : ∀ W, Below wr.heap.size wr W → Calls Try.prog 117 #[.slice A hs.length c, .int .i64 (i : Int), .int .i64 (2 * (i : Int) + 1)] W fun e w' => e = .returned (.tuple #[]) ∧ HeapM w' (.slice A hs.length c) (swapL ks i (2 * i + 1)) ∧ Chg (fun d => (Value.slice A hs.length c).ownBlock = some d ∨ d ∈ ks.map (·.b)) W w' := by
            intro W hW
            have := hswapZ _ ks (i : Int) (2 * (i : Int) + 1) W (hL.out.heap.next hW) (by omega) (by have := hkl.out; omega) (by omega) (by have := hkl.out; omega)
            rwa [show (2 * (i : Int) + 1).toNat = 2 * i + 1 by omega, Int.toNat_natCast] at this
          replace hPs := hid hPs
          replace hPl := hid hPl
          go_wp2_with fail
          refine (hPk.out _ (Below.refl _ _)).mono ?_
          rintro e w2 ⟨rfl, hb2⟩
          have l2 : w2.cell? ⟨lb, 0, none⟩ = some (.slice A hs.length c) := (hb2.cell (p := ⟨lb, 0, none⟩) hll).trans l0
          replace hb2 := hid hb2
          replace hPl := hPl.out
          replace hPs := hPs.out
          cases hlt : lessL ks (2 * i + 1) i
          · rw [hlt] at hPl
            have hfin := fun (W : World) (hW : Below wr.heap.size wr W) => downI_end (hL.out.next hW) hd.out (hch.out.trans (Chg.of_below hW)) (.inr (by rw [hkid.out]; exact hlt))
            replace hfin := hid hfin
            replace hPl := hid hPl
            clear hPs hlt
            go_wp2_with fail
            refine (hPl.out _ hb2.out).mono ?_
            rintro e w3 ⟨rfl, hb3⟩
            replace hb3 := hid hb3
            go_wp2
            go_returns
            exact hfin.out _ (hb2.out.next hb3.out)
          · rw [hlt] at hPl
            have hfin := fun (W : World) (hW : Below wr.heap.size wr W) (w4 : World) hH hc => downI_next (w4 := w4) (hL.out.next hW) hkl.out hp.out hd.out (hch.out.trans (Chg.of_below hW)) hn (by omega) hkid.out.symm hlt hH hc
            replace hfin := hid hfin
            replace hPl := hid hPl
            replace hPs := hid hPs
            clear hlt
            go_wp2_with fail
            refine (hPl.out _ hb2.out).mono ?_
            rintro e w3 ⟨rfl, hb3⟩
            have l3 : w3.cell? ⟨lb, 0, none⟩ = some (.slice A hs.length c) := ((hb2.out.next hb3).cell (p := ⟨lb, 0, none⟩) hll).trans l0
            replace hb3 := hid hb3
            go_wp2_with fail
            refine (hPs.out _ (hb2.out.next hb3.out)).mono ?_
            rintro e w4 ⟨rfl, hH4, hc4⟩
            have hgo := hid (hfin.out _ (hb2.out.next hb3.out) w4 hH4 hc4)
            clear hH4 hc4
            go_wp2_with fail
            go_roundg (n - (2 * i + 1))
            case rel =>
              have := hgo.out
              rwa [show ((2 * i + 1 : Nat) : Int) = 2 * (i : Int) + 1 by push_cast; omega] at this
            case measure => omega
        · rw [hkk] at hPk
          have hkid : kid ks n i = 2 * i + 2 := by unfold kid; rw [if_pos ⟨h2, hkk⟩]
          replace hPk := hid hPk
          replace hkid := hid hkid
          clear hkk
          have hPl : ∀ W, Below wr.heap.size wr W → Calls Try.prog 116 #[.slice A hs.length c, .int .i64 (2 * (i : Int) + 1 + 1), .int .i64 (i : Int)] W fun e w' => e = .returned (.bool (lessL ks (2 * i + 2) i)) ∧ Below W.heap.size W w' := by
            intro W hW
            have := hlessZ _ ks (2 * (i : Int) + 1 + 1) (i : Int) W (hL.out.heap.next hW) (by omega) (by have := hkl.out; omega) (by omega) (by have := hkl.out; omega)
            rwa [show (2 * (i : Int) + 1 + 1).toNat = 2 * i + 2 by omega, Int.toNat_natCast] at this
          have hPs : ∀ W, Below wr.heap.size wr W → Calls Try.prog 117 #[.slice A hs.length c, .int .i64 (i : Int), .int .i64 (2 * (i : Int) + 1 + 1)] W fun e w' => e = .returned (.tuple #[]) ∧ HeapM w' (.slice A hs.length c) (swapL ks i (2 * i + 2)) ∧ Chg (fun d => (Value.slice A hs.length c).ownBlock = some d ∨ d ∈ ks.map (·.b)) W w' := by
            intro W hW
            have := hswapZ _ ks (i : Int) (2 * (i : Int) + 1 + 1) W (hL.out.heap.next hW) (by omega) (by have := hkl.out; omega) (by omega) (by have := hkl.out; omega)
            rwa [show (2 * (i : Int) + 1 + 1).toNat = 2 * i + 2 by omega, Int.toNat_natCast] at this
          replace hPs := hid hPs
          replace hPl := hid hPl
          go_wp2_with fail
          refine (hPk.out _ (Below.refl _ _)).mono ?_
          rintro e w2 ⟨rfl, hb2⟩
          have l2 : w2.cell? ⟨lb, 0, none⟩ = some (.slice A hs.length c) := (hb2.cell (p := ⟨lb, 0, none⟩) hll).trans l0
          replace hb2 := hid hb2
          replace hPl := hPl.out
          replace hPs := hPs.out
          cases hlt : lessL ks (2 * i + 2) i
          · rw [hlt] at hPl
            have hfin := fun (W : World) (hW : Below wr.heap.size wr W) => downI_end (hL.out.next hW) hd.out (hch.out.trans (Chg.of_below hW)) (.inr (by rw [hkid.out]; exact hlt))
            replace hfin := hid hfin
            replace hPl := hid hPl
            clear hPs hlt
            go_wp2_with fail
            refine (hPl.out _ hb2.out).mono ?_
            rintro e w3 ⟨rfl, hb3⟩
            replace hb3 := hid hb3
            go_wp2
            go_returns
            exact hfin.out _ (hb2.out.next hb3.out)
          · rw [hlt] at hPl
            have hfin := fun (W : World) (hW : Below wr.heap.size wr W) (w4 : World) hH hc => downI_next (w4 := w4) (hL.out.next hW) hkl.out hp.out hd.out (hch.out.trans (Chg.of_below hW)) hn (by omega) hkid.out.symm hlt hH hc
            replace hfin := hid hfin
            replace hPl := hid hPl
            replace hPs := hid hPs
            clear hlt
            go_wp2_with fail
            refine (hPl.out _ hb2.out).mono ?_
            rintro e w3 ⟨rfl, hb3⟩
            have l3 : w3.cell? ⟨lb, 0, none⟩ = some (.slice A hs.length c) := ((hb2.out.next hb3).cell (p := ⟨lb, 0, none⟩) hll).trans l0
            replace hb3 := hid hb3
            go_wp2_with fail
            refine (hPs.out _ (hb2.out.next hb3.out)).mono ?_
            rintro e w4 ⟨rfl, hH4, hc4⟩
            have hgo := hid (hfin.out _ (hb2.out.next hb3.out) w4 hH4 hc4)
            clear hH4 hc4
            go_wp2_with fail
            go_roundg (n - (2 * i + 2))
            case rel =>
              have := hgo.out
              rwa [show ((2 * i + 2 : Nat) : Int) = 2 * (i : Int) + 1 + 1 by push_cast; omega] at this
            case measure => omega
      · have hkid : kid ks n i = 2 * i + 1 := by unfold kid; rw [if_neg (by omega)]
        replace hkid := hid hkid
        have hb2 := hid (Below.refl wr.heap.size wr)
        have hPl : ∀ W, Below wr.heap.size wr W → Calls Try.prog 116 #[.slice A hs.length c, .int .i64 (2 * (i : Int) + 1), .int .i64 (i : Int)] W fun e w' => e = .returned (.bool (lessL ks (2 * i + 1) i)) ∧ Below W.heap.size W w' := by
          intro W hW
          have := hlessZ _ ks (2 * (i : Int) + 1) (i : Int) W (hL.out.heap.next hW) (by omega) (by have := hkl.out; omega) (by omega) (by have := hkl.out; omega)
          rwa [show (2 * (i : Int) + 1).toNat = 2 * i + 1 by omega, Int.toNat_natCast] at this
        have hPs : ∀ W, Below wr.heap.size wr W → Calls Try.prog 117 #[.slice A hs.length c, .int .i64 (i : Int), .int .i64 (2 * (i : Int) + 1)] W fun e w' => e = .returned (.tuple #[]) ∧ HeapM w' (.slice A hs.length c) (swapL ks i (2 * i + 1)) ∧ Chg (fun d => (Value.slice A hs.length c).ownBlock = some d ∨ d ∈ ks.map (·.b)) W w' := by
          intro W hW
          have := hswapZ _ ks (i : Int) (2 * (i : Int) + 1) W (hL.out.heap.next hW) (by omega) (by have := hkl.out; omega) (by omega) (by have := hkl.out; omega)
          rwa [show (2 * (i : Int) + 1).toNat = 2 * i + 1 by omega, Int.toNat_natCast] at this
        cases hlt : lessL ks (2 * i + 1) i
        · rw [hlt] at hPl
          have hfin := fun (W : World) (hW : Below wr.heap.size wr W) => downI_end (hL.out.next hW) hd.out (hch.out.trans (Chg.of_below hW)) (.inr (by rw [hkid.out]; exact hlt))
          replace hfin := hid hfin
          replace hPl := hid hPl
          clear hPs hlt
          go_wp2_with fail
          refine (hPl.out _ hb2.out).mono ?_
          rintro e w3 ⟨rfl, hb3⟩
          replace hb3 := hid hb3
          go_wp2
          go_returns
          exact hfin.out _ (hb2.out.next hb3.out)
        · rw [hlt] at hPl
          have hfin := fun (W : World) (hW : Below wr.heap.size wr W) (w4 : World) hH hc => downI_next (w4 := w4) (hL.out.next hW) hkl.out hp.out hd.out (hch.out.trans (Chg.of_below hW)) hn (by omega) hkid.out.symm hlt hH hc
          replace hfin := hid hfin
          replace hPl := hid hPl
          replace hPs := hid hPs
          clear hlt
          go_wp2_with fail
          refine (hPl.out _ hb2.out).mono ?_
          rintro e w3 ⟨rfl, hb3⟩
          have l3 : w3.cell? ⟨lb, 0, none⟩ = some (.slice A hs.length c) := ((hb2.out.next hb3).cell (p := ⟨lb, 0, none⟩) hll).trans l0
          replace hb3 := hid hb3
          go_wp2_with fail
          refine (hPs.out _ (hb2.out.next hb3.out)).mono ?_
          rintro e w4 ⟨rfl, hH4, hc4⟩
          have hgo := hid (hfin.out _ (hb2.out.next hb3.out) w4 hH4 hc4)
          clear hH4 hc4
          go_wp2_with fail
          go_roundg (n - (2 * i + 1))
          case rel =>
            have := hgo.out
            rwa [show ((2 * i + 1 : Nat) : Int) = 2 * (i : Int) + 1 by push_cast; omega] at this
          case measure => omega
end Go.Proofs.Ytllkeifldfmbkaa
