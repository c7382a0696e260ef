/- Layer 12: up of container/heap, over the list's heap. -/
import Derived.Test.YtllkeifldfmbkaaDueD
import Derived.Deep.LoopGhost
import Derived.ChangeKeysEq
import Derived.Handy
import Derived.IntWalk
namespace Go.Proofs.Ytllkeifldfmbkaa
open Go.RowKit

theorem run_wrap (w : World) (t : TypeId) (a : Addr) (s nm : String) : (Builtin.ssaWrapNilChk_ #[t] t #[.pointer (some a), strVal s, strVal nm]).run Try.prog w = .ok (.pointer (some a)) w := rfl
theorem meth_of {nm : String} {f : FuncId} (hm : (Try.prog.info? 103).map (fun i => (i.methods.find? (fun m => m.name == nm)).map (fun m => (m.path, m.func))) = some (some (#[], some (f, false)))) (k : Nat) (w : World) (lb : Nat) {A : Option Addr} {n c : Nat} (h : w.cell? ⟨lb, 0, none⟩ = some (.slice A n c)) :
    (method (k + 1) 103 (.pointer (some ⟨lb, 0, none⟩)) nm).run Try.prog w = .ok (f, .slice A n c) w := by
  cases hi : Try.prog.info? 103 with
  | none => rw [hi] at hm; cases hm
  | some i =>
    rw [hi] at hm
    simp only [Option.map_some, Option.some.injEq] at hm
    cases hf : i.methods.find? (fun m => m.name == nm) with
    | none => rw [hf] at hm; cases hm
    | some m =>
      rw [hf] at hm
      simp only [Option.map_some, Option.some.injEq, Prod.mk.injEq] at hm
      have h1 := run_underlying (P := Try.prog) (w := w) Try.underlying103
      have h3 : (loadVar 96 ⟨lb, 0, none⟩).run Try.prog w = .ok (.slice A n c) w := by simp [loadVar, go_sem, h]
      unfold method
      simp only [Sem.run_bind, run_typeInfo w hi, Result.andThen_ok, hf, hm.1, hm.2, follow, Sem.run_pure, receiverAt, h1, Place.get, asAddr]
      simp [h3, run_wrap]
theorem meth_len (k : Nat) (w : World) (lb : Nat) {A : Option Addr} {n c : Nat} (h : w.cell? ⟨lb, 0, none⟩ = some (.slice A n c)) : (method (k + 1) 103 (.pointer (some ⟨lb, 0, none⟩)) "Len").run Try.prog w = .ok (115, .slice A n c) w := meth_of (by kernel_rfl) k w lb h
theorem meth_less (k : Nat) (w : World) (lb : Nat) {A : Option Addr} {n c : Nat} (h : w.cell? ⟨lb, 0, none⟩ = some (.slice A n c)) : (method (k + 1) 103 (.pointer (some ⟨lb, 0, none⟩)) "Less").run Try.prog w = .ok (116, .slice A n c) w := meth_of (by kernel_rfl) k w lb h
theorem meth_swap (k : Nat) (w : World) (lb : Nat) {A : Option Addr} {n c : Nat} (h : w.cell? ⟨lb, 0, none⟩ = some (.slice A n c)) : (method (k + 1) 103 (.pointer (some ⟨lb, 0, none⟩)) "Swap").run Try.prog w = .ok (117, .slice A n c) w := meth_of (by kernel_rfl) k w lb h

theorem hlessZ (av : Value) (hs : List Nd) (a b : Int) (w : World) (h : HeapM w av hs) (ha : 0 ≤ a) (ha' : a.toNat < hs.length) (hb : 0 ≤ b) (hb' : b.toNat < hs.length) :
    Calls Try.prog 116 #[av, .int .i64 a, .int .i64 b] w fun e w' => e = .returned (.bool (lessL hs a.toNat b.toNat)) ∧ Below w.heap.size w w' := by
  obtain ⟨i, rfl⟩ := Int.eq_ofNat_of_zero_le ha
  obtain ⟨j, rfl⟩ := Int.eq_ofNat_of_zero_le hb
  rw [Int.toNat_natCast] at ha' hb' ⊢
  rw [Int.toNat_natCast]
  exact hless_any av hs i j w h ha' hb'
theorem hswapZ (av : Value) (hs : List Nd) (a b : Int) (w : World) (h : HeapM w av hs) (ha : 0 ≤ a) (ha' : a.toNat < hs.length) (hb : 0 ≤ b) (hb' : b.toNat < hs.length) :
    Calls Try.prog 117 #[av, .int .i64 a, .int .i64 b] w fun e w' => e = .returned (.tuple #[]) ∧ HeapM w' av (swapL hs a.toNat b.toNat) ∧ Chg (fun c => av.ownBlock = some c ∨ c ∈ hs.map (·.b)) w w' := by
  obtain ⟨i, rfl⟩ := Int.eq_ofNat_of_zero_le ha
  obtain ⟨j, rfl⟩ := Int.eq_ofNat_of_zero_le hb
  rw [Int.toNat_natCast] at ha' hb' ⊢
  rw [Int.toNat_natCast]
  exact hswap_any av hs i j w h ha' hb'

def face (lb : Nat) : Value := .iface 103 (.pointer (some ⟨lb, 0, none⟩))
def UpP (w : World) (lb : Nat) (c1 c2 c3 av : Value) (hs : List Nd) (j : Nat) (e : Ending) (w' : World) : Prop :=
  e = .returned (.tuple #[]) ∧ LstM w' lb c1 c2 c3 av (upL (j + 1) hs j) ∧ Chg (fun b => av.ownBlock = some b ∨ b ∈ hs.map (·.b)) w w'
/-- What the loop of up keeps. -/
def UpI (w : World) (lb : Nat) (c1 c2 c3 av : Value) (hs : List Nd) (j n : Nat) (jv : Value) (wr : World) : Prop :=
  ∃ (ks : List Nd), jv = .int .i64 (n : Int) ∧ n < ks.length ∧ ks.length = hs.length ∧ LstM wr lb c1 c2 c3 av ks ∧ ks.Perm hs ∧ upL (n + 1) ks n = upL (j + 1) hs j ∧ Chg (fun b => av.ownBlock = some b ∨ b ∈ hs.map (·.b)) w wr
theorem upI_end {w wr : World} {lb : Nat} {c1 c2 c3 av : Value} {hs ks : List Nd} {j n : Nat} (hL : LstM wr lb c1 c2 c3 av ks) (hu : upL (n + 1) ks n = upL (j + 1) hs j) (hch : Chg (fun b => av.ownBlock = some b ∨ b ∈ hs.map (·.b)) w wr)
    (hs0 : (n - 1) / 2 = n ∨ lessL ks n ((n - 1) / 2) = false) : UpP w lb c1 c2 c3 av hs j (.returned (.tuple #[])) wr := by
  simp only [upL] at hu
  rw [if_pos hs0] at hu
  refine ⟨rfl, ?_, hch⟩
  simp only [upL]
  rw [← hu]; exact hL
theorem LstM.keep {w w' : World} {lb : Nat} {c1 c2 c3 av : Value} {hs ks : List Nd} (h : LstM w lb c1 c2 c3 av hs) (h2 : HeapM w' av ks) (k : Chg (fun b => av.ownBlock = some b ∨ b ∈ hs.map (·.b)) w w') : LstM w' lb c1 c2 c3 av ks := by
  obtain ⟨n1, n2⟩ := h.notin
  exact ⟨h.blk.chg k (fun e => by rcases e with e | e; exact n1 e; exact n2 e), h2⟩
theorem upI_next {w wr w4 : World} {lb : Nat} {c1 c2 c3 av : Value} {hs ks : List Nd} {j n i : Nat} (hL : LstM wr lb c1 c2 c3 av ks) (hk : n < ks.length) (hkl : ks.length = hs.length) (hp : ks.Perm hs) (hu : upL (n + 1) ks n = upL (j + 1) hs j)
    (hch : Chg (fun b => av.ownBlock = some b ∨ b ∈ hs.map (·.b)) w wr) (hn : 0 < n) (hi : i = (n - 1) / 2) (hlt : lessL ks n i = true) (hH : HeapM w4 av (swapL ks i n)) (hc : Chg (fun b => av.ownBlock = some b ∨ b ∈ ks.map (·.b)) wr w4) :
    UpI w lb c1 c2 c3 av hs j i (.int .i64 (i : Int)) w4 := by
  subst hi
  have hmem : ∀ b, b ∈ ks.map (·.b) ↔ b ∈ hs.map (·.b) := fun b => (hp.map (·.b)).mem_iff
  refine ⟨swapL ks ((n - 1) / 2) n, rfl, by rw [swapL_len]; omega, by rw [swapL_len, hkl], hL.keep hH hc, (swapL_perm _ _ _).trans hp, ?_, hch.trans (hc.mono (fun b hb => by rcases hb with hb | hb; exact .inl hb; exact .inr ((hmem b).1 hb)))⟩
  rw [← hu]
  have e : upL (n + 1) ks n = upL n (swapL ks ((n - 1) / 2) n) ((n - 1) / 2) := by
    simp only [upL]
    rw [if_neg (by rw [hlt]; simp; omega)]
  rw [e]
  exact (upL_fuel n ((n - 1) / 2 + 1) _ _ (by omega) (by omega)).symm

set_option maxRecDepth 100000 in
set_option maxHeartbeats 1000000 in
theorem up_any (lb : Nat) (c1 c2 c3 av : Value) (hs : List Nd) (j : Nat) (w : World) (h : LstM w lb c1 c2 c3 av hs) (hj : j < hs.length) (hl : hs.length ≤ 100000) :
    Calls Try.prog 53 #[face lb, .int .i64 (j : Int)] w (UpP w lb c1 c2 c3 av hs j) := by
  obtain ⟨A, c, rfl, _⟩ := h.heap.av_form
  replace h := hid h
  have hml := fun k W => meth_less k W lb (A := A) (n := hs.length) (c := c)
  have hms := fun k W => meth_swap k W lb (A := A) (n := hs.length) (c := c)
  unfold face
  go_enter Try.func53, Try.ntmps53
  go_wp2_with fail
  go_loopg [1] j (fun n jv wr => UpI w lb c1 c2 c3 (.slice A hs.length c) hs j n jv wr)
  case atStart => exact ⟨hs, rfl, hj, rfl, h.out, List.Perm.refl _, rfl, Chg.refl _ _⟩
  case round =>
    obtain ⟨ks, rfl, hk, hkl, hL, hp, hu, hch⟩ := hrel
    have l0 : wr.cell? ⟨lb, 0, none⟩ = some (.slice A hs.length c) := hL.blk.cell 0
    have hkb : gk ≤ 100000 := by omega
    replace hL := hid hL
    replace hp := hid hp
    replace hu := hid hu
    replace hch := hid hch
    replace hkl := hid hkl
    by_cases hk0 : gk = 0
    · subst hk0
      go_wp2_with fail
      go_returns
      exact upI_end hL.out hu.out hch.out (.inl rfl)
    · obtain ⟨k, rfl⟩ : ∃ k, gk = k + 1 := ⟨gk - 1, by omega⟩
      have hi : ((k : Int) / 2).toNat = k / 2 := by omega
      have hi0 : (0 : Int) ≤ (k : Int) / 2 := by omega
      have hne : ((k : Int) / 2 == ((k : Int) + 1)) = false := by
        rw [beq_eq_false_iff_ne]; omega
      have hPl : ∀ W, Below wr.heap.size wr W → Calls Try.prog 116 #[.slice A hs.length c, .int .i64 ((k : Int) + 1), .int .i64 ((k : Int) / 2)] W fun e w' => e = .returned (.bool (lessL ks (k + 1) (k / 2))) ∧ Below W.heap.size W w' := by
        intro W hW
        have := hlessZ _ ks ((k : Int) + 1) ((k : Int) / 2) W (hL.out.heap.next hW) (by omega) (by omega) hi0 (by omega)
        rwa [show ((k : Int) + 1).toNat = k + 1 by omega, hi] at this
      have hPs : ∀ W, Below wr.heap.size wr W → Calls Try.prog 117 #[.slice A hs.length c, .int .i64 ((k : Int) / 2), .int .i64 ((k : Int) + 1)] W fun e w' => e = .returned (.tuple #[]) ∧ HeapM w' (.slice A hs.length c) (swapL ks (k / 2) (k + 1)) ∧ Chg (fun d => (Value.slice A hs.length c).ownBlock = some d ∨ d ∈ ks.map (·.b)) W w' := by
        intro W hW
        have := hswapZ _ ks ((k : Int) / 2) ((k : Int) + 1) W (hL.out.heap.next hW) hi0 (by omega) (by omega) (by omega)
        rwa [show ((k : Int) + 1).toNat = k + 1 by omega, hi] at this
      have hll := hL.out.blk.lt
      replace hi := hid hi
      replace hPs := hid hPs
      clear hk0
      cases hlt : lessL ks (k + 1) (k / 2)
      · rw [hlt] at hPl
        replace hPl := hid hPl
        replace hlt := hid hlt
        go_wp2_with fail
        refine (hPl.out _ (Below.refl _ _)).mono ?_
        rintro e w1 ⟨rfl, hb⟩
        go_wp2_with fail
        go_returns
        exact upI_end (hL.out.next hb) hu.out (hch.out.trans (Chg.of_below hb)) (.inr (by simpa using hlt.out))
      · rw [hlt] at hPl
        replace hPl := hid hPl
        replace hlt := hid hlt
        go_wp2_with fail
        refine (hPl.out _ (Below.refl _ _)).mono ?_
        rintro e w1 ⟨rfl, hb⟩
        have l1 : w1.cell? ⟨lb, 0, none⟩ = some (.slice A hs.length c) := (hb.cell (p := ⟨lb, 0, none⟩) hll).trans l0
        replace hb := hid hb
        go_wp2_with fail
        refine (hPs.out _ hb.out).mono ?_
        rintro e w2 ⟨rfl, hH2, hc2⟩
        have hfin := upI_next (hL.out.next hb.out) hk hkl.out hp.out hu.out (hch.out.trans (Chg.of_below hb.out)) (by omega) (i := k / 2) (by simp) hlt.out hH2 hc2
        replace hfin := hid hfin
        clear hH2 hc2
        go_wp2_with fail
        go_roundg (k / 2)
        case rel =>
          have := hfin.out
          rwa [show ((k / 2 : Nat) : Int) = (k : Int) / 2 by omega] at this
        case measure => omega
end Go.Proofs.Ytllkeifldfmbkaa
