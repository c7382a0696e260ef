/- Layer 14: the fixed run, walked. -/
import Derived.Test.YtllkeifldfmbkaaOrdK
namespace Go.Proofs.Ytllkeifldfmbkaa
open Go.RowKit

theorem mkT (n : Int) (w : World) (h0 : 0 ≤ n) (h1 : n ≤ 1000) :
    Calls Try.prog 30 #[.int .i64 n] w fun e w' => e = .returned (txVal (T n) (.slice none 0 0)) ∧ Below w.heap.size w w' := mk_any n w h0 h1

theorem lit_txs (W : World) : Txs (W.alloc (Obj.cells #[Value.int IntKind.i64 (T 5).o, Value.int IntKind.i64 (T 5).s, Value.int IntKind.i64 (T 5).d0, Value.int IntKind.i64 (T 5).d1, Value.int IntKind.i64 (T 5).d2, Value.slice none 0 0,
          Value.int IntKind.i64 (T 6).o, Value.int IntKind.i64 (T 6).s, Value.int IntKind.i64 (T 6).d0, Value.int IntKind.i64 (T 6).d1, Value.int IntKind.i64 (T 6).d2, Value.slice none 0 0] 34)) (fun _ => True)
    (.slice (some ⟨W.heap.size, 0, none⟩) 2 2) [(T 5, .slice none 0 0), (T 6, .slice none 0 0)] := by
  refine ⟨_, 2, rfl, by decide, by simp [maxLen], ⟨rfl, fun _ => ⟨_, 0, rfl, by rw [World.size_alloc]; omega, trivial, fun k u hk => ?_⟩⟩, fun x hx => ?_⟩
  · have := new_cells W 34 (txCells (T 5) (.slice none 0 0) ++ txCells (T 6) (.slice none 0 0)) k u hk
    rw [Addr.add_lit] at this
    exact this
  · have : x.1.ws = [] ∧ x.2 = .slice none 0 0 := by
      simp only [List.mem_cons, List.not_mem_nil, or_false] at hx
      rcases hx with rfl | rfl <;> exact ⟨rfl, rfl⟩
    rw [this.2]
    exact (nil_ws _ x.1 this.1).more (fun _ _ h => h.elim)

set_option maxRecDepth 100000 in
set_option maxHeartbeats 8000000 in
theorem awake_any (w : World) : Calls Try.prog 8 #[] w fun e w' => e = .returned (.bool true) ∧ Below w.heap.size w w' := by
  have hN1 := fun W => new_ok (X := fun _ => False) 1 4 W (by decide) (by decide) (by decide) (by decide)
  have hN2 := fun W => new_name 3 0 W (by decide)
  have hN3 := fun W => new_arg 0 (-1) W (by decide) (by decide) (by decide)
  replace hN1 := hid hN1
  replace hN2 := hid hN2
  replace hN3 := hid hN3
  go_enter Try.func8, Try.ntmps8
  go_wp2_with fail
  refine (hN1.out _).mono ?_
  rintro e w1 ⟨rfl, hB, hb⟩
  have hA : AwI w (w.heap.size + 1) w.heap.size 4 [] w1 := ⟨[], rfl, hB, hb⟩
  obtain ⟨g, hgg⟩ : ∃ g, g = w.heap.size + 1 := ⟨_, rfl⟩
  obtain ⟨mb, hmb⟩ : ∃ mb, mb = w.heap.size := ⟨_, rfl⟩
  rw [← hgg, ← hmb] at hA
  rw [← hgg]
  have hg0 : w.heap.size ≤ g := by omega
  have hm0 : w.heap.size ≤ mb := by omega
  clear hB hb hgg hmb hN1
  replace hA := hid hA
  go_wp2_with fail
  refine (hN2.out _).mono ?_
  rintro e _ ⟨rfl, rfl⟩
  go_wp2_with fail
  refine (hN3.out _).mono ?_
  rintro e _ ⟨rfl, rfl⟩
  clear hN2 hN3
  go_wp2_with fail
  refine (mkT 6 _ (by decide) (by decide)).mono ?_
  rintro e w2 ⟨rfl, hb⟩
  have hA := hid (hA.out.next hb)
  clear hb
  go_wp2_with fail
  refine (aput_held hA.out hg0 hm0 (T 6) rfl (by decide) (by decide) (by decide) (by decide)).mono ?_
  rintro e w3 ⟨rfl, h3⟩
  clear hA
  replace hA := hid h3
  clear h3
  go_wp2_with fail
  refine (mkT 6 _ (by decide) (by decide)).mono ?_
  rintro e w4 ⟨rfl, hb⟩
  have hA := hid (hA.out.next hb)
  clear hb
  go_wp2_with fail
  refine (aput_no hA.out (T 6) rfl (by decide) (by decide) (by decide) (k := 1) (by decide) (by decide)).mono ?_
  rintro e w5 ⟨rfl, h5⟩
  clear hA
  replace hA := hid h5
  clear h5
  go_wp2_with fail
  refine (mkT 4 _ (by decide) (by decide)).mono ?_
  rintro e w6 ⟨rfl, hb⟩
  have hA := hid (hA.out.next hb)
  clear hb
  go_wp2_with fail
  refine (aput_no hA.out (T 4) rfl (by decide) (by decide) (by decide) (k := 1) (by decide) (by decide)).mono ?_
  rintro e w7 ⟨rfl, h7⟩
  clear hA
  replace hA := hid h7
  clear h7
  go_wp2_with fail
  refine (aput_no hA.out ⟨0, 5, 4, 0, 0, []⟩ rfl (by decide) (by decide) (by decide) (k := 0) (by decide) (by decide)).mono ?_
  rintro e w8 ⟨rfl, h8⟩
  clear hA
  replace hA := hid h8
  clear h8
  go_wp2_with fail
  have hst : AwLoop w g mb 7 (.int .i64 8) w8 := ⟨0, by omega, rfl, rfl, hA.out⟩
  clear hA
  replace hst := hid hst
  go_loopg [16] 7 (fun n sq wr => AwLoop w g mb n sq wr)
  case atStart => exact hst.out
  case round =>
    clear hst
    obtain ⟨k, hk, rfl, rfl, hA⟩ := hrel
    by_cases hlt : k < 7
    · replace hA := hid hA
      obtain ⟨hp1, hp2⟩ := loop_put k hlt
      replace hp1 := hid hp1
      replace hp2 := hid hp2
      go_wp2_with fail
      refine (mkT (8 + (k : Int)) _ (by omega) (by omega)).mono ?_
      rintro e wx ⟨rfl, hb⟩
      have hA := hid (hA.out.next hb)
      clear hb
      go_wp2_with fail
      refine (aput_held hA.out hg0 hm0 (T (8 + (k : Int))) rfl (by decide) (by decide) (by rw [List.length_take]; have : ts8.length = 8 := rfl; omega) hp1.out).mono ?_
      rintro e wy ⟨rfl, h3⟩
      clear hA
      rw [hp2.out] at h3
      replace hA := hid h3
      clear h3
      go_wp2_with fail
      go_roundg (7 - (k + 1))
      case rel => exact ⟨k + 1, by omega, rfl, by go_num, hA.out⟩
      case measure => omega
    · have hk7 : k = 7 := by omega
      subst hk7
      clear hlt hk
      have hA : AwI w g mb 4 ts8 wr := hA
      replace hA := hid hA
      go_wp2_with fail
      refine (mkT 15 _ (by decide) (by decide)).mono ?_
      rintro e w10 ⟨rfl, hb⟩
      have hA := hid (hA.out.next hb)
      clear hb
      go_wp2_with fail
      refine (aput_no hA.out (T 15) rfl (by decide) (by decide) (by decide) (k := 4) (by decide) (by decide)).mono ?_
      rintro e w11 ⟨rfl, h7⟩
      clear hA
      replace hA := hid h7
      clear h7
      go_wp2_with fail
      refine (agap hA.out).mono ?_
      rintro e w12 ⟨rfl, h7⟩
      clear hA
      replace hA := hid h7
      clear h7
      go_wp2_with fail
      refine (mkT 5 _ (by decide) (by decide)).mono ?_
      rintro e w13 ⟨rfl, hb⟩
      have hA := hid (hA.out.next hb)
      clear hb
      go_wp2_with fail
      refine (aput_next hA.out hg0 hm0).mono ?_
      rintro e w14 ⟨v, va, vb, rfl, h7, hT⟩
      clear hA
      replace hA := hid h7
      clear h7
      obtain ⟨tA, tc, rfl, _⟩ := id hT
      replace hT := hid hT
      go_wp2_with fail
      refine (anum hA.out).mono ?_
      rintro e w15 ⟨nA, nc, rfl, h7, hb⟩
      clear hA
      replace hA := hid h7
      have hT := hid (hT.out.below hb)
      clear h7 hb
      go_wp2_with fail
      refine (ahave hA.out).mono ?_
      rintro e _ ⟨rfl, rfl⟩
      go_wp2_with fail
      refine (mkT 5 _ (by decide) (by decide)).mono ?_
      rintro e w16 ⟨rfl, hb⟩
      have hA := hid (hA.out.next hb)
      have hT := hid (hT.out.below hb)
      clear hb
      go_wp2_with fail
      refine (mkT 6 _ (by decide) (by decide)).mono ?_
      rintro e w17 ⟨rfl, hb⟩
      have hA := hid (hA.out.next hb)
      have hT := hid (hT.out.below hb)
      clear hb
      go_wp2_with fail
      have hC := txns_any (fun _ => True) (fun _ => True) _ [(T 5, .slice none 0 0), (T 6, .slice none 0 0)] (.slice tA 2 tc) (.slice (some ⟨w17.heap.size, 0, none⟩) 2 2) _ (hT.out.below ((Below.refl _ _).alloc (Nat.le_refl _) _)) (lit_txs w17)
      rw [sameTxs_of (by rfl)] at hC
      refine hC.mono ?_
      rintro e w18 ⟨rfl, hb⟩
      have hA := hid ((hA.out.next ((Below.refl _ _).alloc (Nat.le_refl _) _)).next hb)
      clear hb hC hT
      go_wp2_with fail
      refine (aback hA.out hg0 2 (by decide) (by decide)).mono ?_
      rintro e w19 ⟨rfl, h7⟩
      obtain ⟨mb2, hmb2⟩ : ∃ x, x = w18.heap.size := ⟨_, rfl⟩
      rw [← hmb2] at h7
      clear hA hmb2
      replace hA := hid h7
      clear h7
      go_wp2_with fail
      refine (ahave hA.out).mono ?_
      rintro e _ ⟨rfl, rfl⟩
      go_wp2_with fail
      refine (anum0 hA.out).mono ?_
      rintro e w20 ⟨zA, zc, rfl, h7⟩
      clear hA
      replace hA := hid h7
      clear h7
      go_wp2_with fail
      refine (aback_no hA.out 3 (by decide)).mono ?_
      rintro e _ ⟨rfl, rfl⟩
      go_wp2_with fail
      go_returns
      obtain ⟨_, _, _, hb⟩ := hA.out
      exact ⟨rfl, hb⟩
end Go.Proofs.Ytllkeifldfmbkaa
