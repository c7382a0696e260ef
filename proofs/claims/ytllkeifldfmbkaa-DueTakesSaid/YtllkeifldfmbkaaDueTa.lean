/- Layer 12: the law DueTakes, walked. -/
import Derived.Test.YtllkeifldfmbkaaDueTk
import Derived.Test.YtllkeifldfmbkaaDueSS
import Derived.Maps.RangeRun
namespace Go.Proofs.Ytllkeifldfmbkaa
open Go.RowKit
open Go.ChangeMaps (setBlock)

noncomputable def tkKeys : KeyKind Try.prog 3 intKey := KeyKind.int Try.underlying3
theorem zero_i64 (w : World) : (zeroValue 2).run Try.prog w = .ok (.int .i64 0) w := by kernel_rfl
def atO (o : Option Tr) : Int := match o with | some x => x.2.1 | none => 0
section
variable {w W w' : World} {lb mb : Nat} {now : Int} {T M : List Tr} {X X' : Nat → Prop}
theorem tk_look (h : TK w W lb mb now T M X) (k : Int) : (Instr.lookup 70 (.map (some mb)) (.int .i64 k) true).run Try.prog W = .ok (.tuple #[.int .i64 (atO (keyT M k)), .bool (keyT M k).isSome]) W := by
  obtain ⟨m, h1, h2, _⟩ := h.map
  have h3 := h1.lookup (P := Try.prog) tkKeys Try.underlying70 (zero_i64 W) k true
  rw [mget_perm h2 (gmap_nodup h1), pm_get] at h3
  simp only [if_true] at h3
  unfold intKey at h3
  rw [h3]
  cases keyT M k <;> rfl
theorem tk_len (h : TK w W lb mb now T M X) (ty : TypeId) : (Builtin.len_ #[70] ty #[.map (some mb)]).run Try.prog W = .ok (.int .i64 M.length) W := by
  obtain ⟨m, h1, h2, _⟩ := h.map
  have h3 := h1.len (P := Try.prog) Try.underlying70 ty
  have : m.length = M.length := by rw [h2.length_eq]; unfold pm; rw [List.length_map]
  rw [this] at h3
  exact h3
end
theorem setT_zero {most now : Int} {T : List Tr} {key at_ n' : Int} {T' : List Tr} (h : setT most now T key at_ = (0, n', T')) : T' = insT (key, at_, now + 1) (dropT T key) := by
  unfold setT at h
  split at h
  · injection h with h; omega
  · split at h
    · injection h with h; omega
    · injection h with h1 h; injection h with h2 h; exact h.symm
theorem setT_not {most now : Int} {T : List Tr} {key at_ r n' : Int} {T' : List Tr} (h : setT most now T key at_ = (r, n', T')) (hr : r ≠ 0) : T' = T := by
  unfold setT at h
  split at h
  · injection h with h1 h; injection h with h2 h; exact h.symm
  · split at h
    · injection h with h1 h; injection h with h2 h; exact h.symm
    · injection h with h1 h; exact absurd h1.symm hr
theorem dropT_len (T : List Tr) (k : Int) : (dropT T k).length ≤ T.length := List.length_filter_le _ _
theorem take_rest (T : List Tr) (t : Int) : takeT T t ++ restT T t = T := List.takeWhile_append_dropWhile
theorem take_le : ∀ (T : List Tr) (t : Int), ∀ x ∈ takeT T t, x.2.1 ≤ t
  | [], _, x, hx => by simp [takeT] at hx
  | y :: T, t, x, hx => by
    unfold takeT at hx
    rw [List.takeWhile_cons] at hx
    split at hx
    · rename_i h
      rcases List.mem_cons.1 hx with rfl | hx
      · simpa using h
      · exact take_le T t x hx
    · simp at hx
theorem rest_gt : ∀ (T : List Tr) (t : Int), T.Pairwise (fun a b => a.2.1 ≤ b.2.1) → ∀ x ∈ restT T t, t < x.2.1
  | [], _, _, x, hx => by simp [restT] at hx
  | y :: T, t, hp, x, hx => by
    obtain ⟨h1, h2⟩ := List.pairwise_cons.1 hp
    unfold restT at hx
    rw [List.dropWhile_cons] at hx
    split at hx
    · exact rest_gt T t h2 x hx
    · rename_i h
      have h3 : t < y.2.1 := by simpa using h
      rcases List.mem_cons.1 hx with rfl | hx
      · exact h3
      · have := h1 x hx; omega
theorem keyT_head (x : Tr) (r : List Tr) : keyT (x :: r) x.1 = some x := by simp [keyT]
theorem dropT_head {x : Tr} {r : List Tr} (hn : ((x :: r).map (·.1)).Nodup) : dropT (x :: r) x.1 = r := by
  rw [List.map_cons] at hn
  obtain ⟨h1, _⟩ := List.nodup_cons.1 hn
  have e : dropT (x :: r) x.1 = dropT r x.1 := by simp [dropT]
  rw [e]
  unfold dropT
  refine List.filter_eq_self.2 (fun p hp => ?_)
  have : ¬ x.1 = p.1 := fun e => h1 (List.mem_map.2 ⟨p, hp, e.symm⟩)
  simp [this]
theorem setBlock_chg (w : World) (b : Nat) (o : Obj) : Chg (fun i => i = b) w (setBlock w b o) :=
  ⟨rfl, rfl, rfl, by simp [setBlock], fun k _ hF => by simp only [setBlock]; rw [Array.getElem?_setIfInBounds_ne (fun e => hF e.symm)]⟩
theorem setBlock_at {w : World} {b : Nat} (hb : b < w.heap.size) (o : Obj) : (setBlock w b o).heap[b]? = some o := by simp [setBlock, hb]

set_option maxRecDepth 100000 in
set_option maxHeartbeats 8000000 in
theorem takes12_any (S : Nat → Prop) (v : Value) (l : List Tr) (w : World) (h : Acts12 w S v l) :
    Calls Try.prog 6 #[v] w fun e w' => e = .returned (.bool true) ∧ Below w.heap.size w w' := by
  obtain ⟨A, c, rfl, hc, hm, hr⟩ := h
  have hm1 := hm; unfold maxLen at hm1
  replace hr := hid hr
  have hA := fun W => awake12_any W
  replace hA := hid hA
  have hmm := @run_makeMap Try.prog
  go_enter Try.func6, Try.ntmps6
  go_wp2_with fail
  refine (hA.out _).mono ?_
  rintro e w1 ⟨rfl, hb1⟩
  replace hb1 := hid hb1
  clear hA
  by_cases hlen : 100 < l.length
  · go_wp2
    go_returns
    exact ⟨rfl, hb1.out⟩
  have hN := fun W => tnew_ok 1000 W (by decide) (by decide)
  replace hN := hid hN
  go_wp2_with fail
  refine (hN.out _).mono ?_
  rintro e w2 ⟨lx, Fx, rfl, hDx, hFx, hb2⟩
  have hst : Hid (∃ mb, mb = w2.heap.size ∧ TK w (w2.alloc (.map #[] 0)) lx mb 0 [] [] (fun _ => False)) := hid ⟨w2.heap.size, rfl, Fx, [], hDx.next ((Below.refl _ _).alloc (Nat.le_refl _) _), fun b hb => Nat.le_trans hb1.out.size (hFx b hb), by have := hb1.out.size; have := hb2.size; omega, fun hF => by have := hDx.lt _ hF; omega, GMap.new intKey w2, List.Perm.refl _, (hb1.out.next hb2).alloc ((hb1.out.next hb2).size) _, fun b hb => hb.elim⟩
  clear hN hDx hFx hb1 hb2
  go_wp2_with fail
  clear hmm
  obtain ⟨mb, hmb, hS⟩ := hst.out
  rw [← hmb]
  clear hst
  replace hS := hid hS
  go_loopg [31] l.length (fun n ix wr => ∃ (k : Nat) (now : Int) (T : List Tr), k ≤ l.length ∧ n = l.length - k ∧ ix = .int .i64 k ∧ T.length ≤ k ∧ 0 ≤ now ∧ now ≤ k ∧ TK w wr lx mb now T T (fun _ => False))
  case atStart => exact ⟨0, 0, [], Nat.zero_le _, by omega, rfl, by simp, by omega, by omega, hS.out⟩
  case round =>
    clear hS hmb
    obtain ⟨k, now, T, hk, rfl, rfl, hT, hn0, hn1, hss⟩ := hrel
    by_cases hlt : k < l.length
    rotate_left
    · have hbl := hid hss.below
      clear hss hr
      go_wp2_with fail
      go_returns
      exact ⟨rfl, hbl.out⟩
    obtain ⟨x, hx⟩ : ∃ x, l[k]? = some x := ⟨_, List.getElem?_eq_getElem hlt⟩
    obtain ⟨b, o, rfl, hbl, c0, c1, c2⟩ := (hr.out.below hss.below).act12 hx
    obtain ⟨d, key, at_⟩ := x
    simp only [] at c0 c1 c2
    clear hx
    have TA : TK w (wr.alloc (.cells #[.int .i64 d, .int .i64 key, .int .i64 at_] 55)) lx mb now T T (fun b => b = wr.heap.size) := hss.next ((Below.refl _ _).alloc (Nat.le_refl _) _) (fun b hb => .inr (by subst hb; simp))
    have BA := Blk.new wr 55 [.int .i64 d, .int .i64 key, .int .i64 at_]
    have hszw : w.heap.size ≤ wr.heap.size := hss.below.size
    replace TA := hid TA
    replace BA := hid BA
    clear hss
    by_cases h0 : d = 0
    · subst h0
      obtain ⟨r, now', T', hse⟩ : ∃ r now' T', setT 1000 now T key at_ = (r, now', T') := ⟨_, _, _, rfl⟩
      have hC := tk_set TA.out (by omega) hn0 (by omega) key at_
      have h7 := setT_len 1000 now T key at_
      rw [hse] at hC h7
      simp only [] at hC h7
      replace hC := hid hC
      go_wp2_with fail
      refine hC.out.mono ?_
      rintro e w5 ⟨rfl, h5, k5⟩
      have B5 := BA.out.chg k5 (fun h => h rfl)
      have x1 : w5.cell? ⟨wr.heap.size, 1, none⟩ = some (.int .i64 key) := B5.cell 1
      have x2 : w5.cell? ⟨wr.heap.size, 2, none⟩ = some (.int .i64 at_) := B5.cell 2
      clear hC c0 c1 c2 hbl k5 B5 BA TA
      by_cases hr0 : r = 0
      · subst hr0
        have hT' := setT_zero hse
        obtain ⟨m, hm5, hp5, hnx⟩ := h5.map
        have hm5n := gmap_nodup hm5
        replace hm5 := hid hm5
        replace hp5 := hid hp5
        replace hnx := hid hnx
        replace hm5n := hid hm5n
        clear h5
        go_wp2_with (at_mapUpdate; (refine wpList_update_g rfl _ _ _ rfl tkKeys Try.underlying70 rfl hm5.out key (.int .i64 at_) rfl rfl ?_); intro w6 hM6 k6; have h6 := hid (hnx.out _ w6 T' hM6 k6 (by rw [hT']; exact put_follow hp5.out hm5n.out key at_ (now + 1))).1; clear hM6 k6)
        clear hm5 hp5 hnx hm5n
        refine (tk_all h6.out (by omega)).mono ?_
        rintro e w7 ⟨A7, c7, rfl, h7, _⟩
        have hln := fun ty => tk_len h7 ty
        replace h7 := hid h7
        clear h6
        go_wp2_with fail
        go_roundg (l.length - (k + 1))
        case rel => exact ⟨k + 1, _, _, by omega, rfl, by go_num, by omega, by omega, by omega, h7.out.less (fun b hb => hb.elim)⟩
        case measure => omega
      · have hT' := setT_not hse hr0
        subst hT'
        have h6 := hid h5
        clear h5
        go_wp2_with fail
        refine (tk_all h6.out (by omega)).mono ?_
        rintro e w7 ⟨A7, c7, rfl, h7, _⟩
        have hln := fun ty => tk_len h7 ty
        replace h7 := hid h7
        clear h6
        go_wp2_with fail
        go_roundg (l.length - (k + 1))
        case rel => exact ⟨k + 1, _, _, by omega, rfl, by go_num, by omega, by omega, by omega, h7.out.less (fun b hb => hb.elim)⟩
        case measure => omega
    · by_cases h1 : d = 1
      · subst h1
        have hlk := tk_look TA.out key
        obtain ⟨bb, hbb⟩ : ∃ bb, (keyT T key).isSome = bb := ⟨_, rfl⟩
        have hC := tk_stop TA.out (by omega) key
        rw [hbb] at hlk hC
        replace hC := hid hC
        go_wp2_with fail
        refine hC.out.mono ?_
        rintro e w5 ⟨rfl, h5, k5⟩
        have B5 := BA.out.chg k5 (fun h => h rfl)
        have x1 : w5.cell? ⟨wr.heap.size, 1, none⟩ = some (.int .i64 key) := B5.cell 1
        have hdl := dropT_len T key
        clear hC c0 c1 c2 hbl k5 B5 BA TA hlk hbb
        obtain ⟨m, hm5, hp5, hnx⟩ := h5.map
        replace hm5 := hid hm5
        replace hp5 := hid hp5
        replace hnx := hid hnx
        clear h5
        go_wp2_with (at_delete; (refine wpList_delete_g rfl _ _ rfl tkKeys Try.underlying70 rfl hm5.out key rfl ?_); intro w6 hM6 k6; have h6 := hid (hnx.out _ w6 (dropT T key) hM6 k6 (del_follow hp5.out key)).1; clear hM6 k6)
        clear hm5 hp5 hnx
        refine (tk_all h6.out (by omega)).mono ?_
        rintro e w7 ⟨A7, c7, rfl, h7, _⟩
        have hln := fun ty => tk_len h7 ty
        replace h7 := hid h7
        clear h6
        go_wp2_with fail
        go_roundg (l.length - (k + 1))
        case rel => exact ⟨k + 1, _, _, by omega, rfl, by go_num, by omega, by omega, by omega, h7.out.less (fun b hb => hb.elim)⟩
        case measure => omega
      · by_cases h2 : d = 2
        · subst h2
          have hf := TA.out.facts
          have hC := tk_take TA.out (by omega) at_
          replace hC := hid hC
          go_wp2_with fail
          refine hC.out.mono ?_
          rintro e w5 ⟨A5, c5, rfl, h5, hr5, k5⟩
          obtain ⟨X, hX, htag⟩ : ∃ X : Nat → Prop, X = (fun b => b = wr.heap.size ∨ ((wr.alloc (.cells #[.int .i64 2, .int .i64 key, .int .i64 at_] 55)).heap.size ≤ b ∧ (Value.slice A5 (kaT (takeT T at_)).length c5).ownBlock = some b)) ∧ X wr.heap.size := ⟨_, rfl, .inl rfl⟩
          rw [← hX] at h5
          have B5 := BA.out.chg k5 (fun h => h rfl)
          have hr5X := hr5.more (S' := X) (fun b _ hb => by rw [hX]; exact .inr hb)
          obtain ⟨tag, htg⟩ : ∃ tag, tag = wr.heap.size := ⟨_, rfl⟩
          have htw : w.heap.size ≤ tag := by omega
          rw [← htg] at B5 htag ⊢
          obtain ⟨tk, htk⟩ : ∃ tk, takeT T at_ = tk := ⟨_, rfl⟩
          obtain ⟨rest, hrest⟩ : ∃ rest, restT T at_ = rest := ⟨_, rfl⟩
          have hTs : tk ++ rest = T := by rw [← htk, ← hrest]; exact take_rest T at_
          have hle : ∀ x ∈ tk, x.2.1 ≤ at_ := by rw [← htk]; exact take_le T at_
          have hgt : ∀ x ∈ rest, at_ < x.2.1 := by rw [← hrest]; exact rest_gt T at_ hf.2.1
          have hlt2 : tk.length + rest.length = T.length := by rw [← hTs, List.length_append]
          obtain ⟨N, hN⟩ : ∃ N, (kaT tk).length = N := ⟨_, rfl⟩
          have hNt : N = tk.length := by rw [← hN]; unfold kaT; rw [List.length_map]
          rw [htk] at hr5X ⊢
          rw [hrest] at h5
          rw [hN] at hr5X ⊢
          clear hr5 hC TA BA k5 c0 c1 c2 hbl htk hrest hX htg
          rw [← hTs] at hf
          obtain ⟨hf1, hf2, hf3⟩ := hf
          have hst : Hid (TK w w5 lx mb now rest (tk.drop 0 ++ rest) X) := hid (by rw [List.drop_zero, hTs]; exact h5)
          replace hf1 := hid hf1
          replace hf2 := hid hf2
          replace hf3 := hid hf3
          replace hle := hid hle
          replace hgt := hid hgt
          replace B5 := hid B5
          replace hr5X := hid hr5X
          replace htag := hid htag
          clear h5 hTs
          go_wp2_with fail
          go_loopg [10, 76] N (fun n lv ix w6 => ∃ (j : Nat) (la : Int), j ≤ N ∧ n = N - j ∧ ix = .int .i64 j ∧ lv = .int .i64 la ∧ (∀ x ∈ tk.drop j, la ≤ x.2.1) ∧ TK w w6 lx mb now rest (tk.drop j ++ rest) X ∧ Chg (fun b => ¬ X b) w5 w6)
          case atStart => exact ⟨0, 0, Nat.zero_le _, by omega, rfl, rfl, fun x hx => (hf3.out x (List.mem_append_left _ (List.mem_of_mem_drop hx))).2, hst.out, Chg.refl _ _⟩
          case round =>
            clear hst
            obtain ⟨j, la, hj, rfl, rfl, rfl, hla, h6, k6⟩ := hrel
            have B6 := B5.out.chg k6 (fun h => h htag.out)
            by_cases hjl : j < N
            · obtain ⟨y, hy⟩ : ∃ y, tk[j]? = some y := ⟨_, List.getElem?_eq_getElem (by omega)⟩
              have hdr : tk.drop j = y :: tk.drop (j + 1) := by
                have hjl' : j < tk.length := by omega
                rw [List.drop_eq_getElem_cons hjl']
                rw [List.getElem?_eq_getElem hjl'] at hy
                injection hy with hy
                rw [hy]
              have hr6 := hr5X.out.chg k6 (fun b hb h => h hb)
              rw [← hN] at hr6
              obtain ⟨b5, o5, rfl, hb5, _, d0, d1⟩ := hr6.ka (p := (y.1, y.2.1)) (by unfold kaT; rw [List.getElem?_map, hy]; rfl)
              obtain ⟨yk, ya, ys⟩ := y
              simp only [] at d0 d1
              have T6 : TK w (wr.alloc (.cells #[.int .i64 yk, .int .i64 ya] 72)) lx mb now rest (tk.drop j ++ rest) X := h6.next ((Below.refl _ _).alloc (Nat.le_refl _) _) (fun b hb => .inl hb)
              have hlk := tk_look T6 yk
              have hkh : keyT ((yk, ya, ys) :: (tk.drop (j + 1) ++ rest)) yk = some (yk, ya, ys) := keyT_head (yk, ya, ys) _
              rw [hdr, List.cons_append, hkh] at hlk
              simp only [atO, Option.isSome_some] at hlk
              have hya1 : ya ≤ at_ := hle.out (yk, ya, ys) (List.mem_of_getElem? hy)
              have hya2 : la ≤ ya := hla (yk, ya, ys) (by rw [hdr]; exact List.mem_cons_self)
              have B6a := B6.alloc (.cells #[.int .i64 yk, .int .i64 ya] 72)
              have a2 : (wr.alloc (.cells #[.int .i64 yk, .int .i64 ya] 72)).cell? ⟨tag, 2, none⟩ = some (.int .i64 at_) := B6a.cell 2
              have k6a := k6.new (.cells #[.int .i64 yk, .int .i64 ya] 72)
              have hsub : (tk.drop j ++ rest).Sublist (tk ++ rest) := (List.drop_sublist j tk).append (List.Sublist.refl rest)
              have hnd : (((yk, ya, ys) :: (tk.drop (j + 1) ++ rest)).map (·.1)).Nodup := by
                have := (hsub.map (fun x : Tr => x.1)).nodup hf1.out
                rw [hdr] at this; exact this
              have hdh : dropT (tk.drop j ++ rest) yk = tk.drop (j + 1) ++ rest := by rw [hdr]; exact dropT_head (x := (yk, ya, ys)) hnd
              have hso : ∀ x ∈ tk.drop (j + 1), ya ≤ x.2.1 := by
                have := hf2.out.sublist hsub
                rw [hdr] at this
                exact fun x hx => (List.pairwise_cons.1 this).1 x (List.mem_append_left _ hx)
              obtain ⟨m, hm6, hp6, hnx⟩ := T6.map
              replace hm6 := hid hm6
              replace hp6 := hid hp6
              replace hnx := hid hnx
              replace hdh := hid hdh
              replace hso := hid hso
              replace k6a := hid k6a
              clear T6 hkh B6a hsub hnd hr6 B6 h6 k6 hla hdr hy
              go_wp2_with (at_delete; (refine wpList_delete_g rfl _ _ rfl tkKeys Try.underlying70 rfl hm6.out yk rfl ?_); intro w8 hM8 k8; have h8 := hid (hnx.out _ w8 (tk.drop (j + 1) ++ rest) hM8 k8 (by rw [← hdh.out]; exact del_follow hp6.out yk)); clear hM8 k8)
              go_roundg (N - (j + 1))
              case rel => exact ⟨j + 1, ya, by omega, rfl, by go_num, rfl, hso.out, h8.out.1, k6a.out.trans h8.out.2⟩
              case measure => omega
            · have hjN : j = N := by omega
              subst hjN
              have hdr : tk.drop j = [] := List.drop_eq_nil_of_le (by omega)
              rw [hdr, List.nil_append] at h6
              obtain ⟨m, hm6, hp6, _⟩ := h6.map
              obtain ⟨es, clock, hb6, hes, hn6, hborn, hbn⟩ := hm6
              have hval : ∀ e ∈ es.toList, ∃ tv, e.val = .int .i64 tv ∧ at_ < tv := by
                intro e he
                have h1 : (e.key, e.val) ∈ m.map (fun p => (intKey p.1, p.2)) := by rw [← hes]; exact List.mem_map.2 ⟨e, he, rfl⟩
                obtain ⟨p, hp, h2⟩ := List.mem_map.1 h1
                obtain ⟨x, hx, h3⟩ := List.mem_map.1 (hp6.mem_iff.1 hp)
                injection h2 with _ h2
                rw [← h2, ← h3]
                exact ⟨x.2.1, rfl, hgt.out x hx⟩
              have hrg := run_range_map (P := Try.prog) wr 70 3 2 mb es clock Try.underlying70 hb6
              have hmlt : mb < wr.heap.size := (Array.getElem?_eq_some_iff.1 hb6).1
              obtain ⟨r, hrr⟩ : ∃ r, r = wr.heap.size := ⟨_, rfl⟩
              obtain ⟨W0, hW0⟩ : ∃ W0, W0 = wr.alloc (.mapIter (some mb) clock #[] clock) := ⟨_, rfl⟩
              have h9 : TK w W0 lx mb now rest rest (fun b => X b ∨ b = r) := by rw [hW0]; exact h6.next ((Below.refl _ _).alloc (Nat.le_refl _) _) (fun b hb => by rcases hb with hb | hb; exact .inl hb; exact .inr (by rw [hb, hrr]; simp))
              have B9 : Blk W0 tag 55 [.int .i64 2, .int .i64 key, .int .i64 at_] := by rw [hW0]; exact B6.alloc _
              have hm9 : W0.heap[mb]? = some (.map es clock) := by rw [hW0, heap_alloc_old wr _ hmlt]; exact hb6
              have hr9 : W0.heap[r]? = some (.mapIter (some mb) clock #[] clock) := by rw [hW0, hrr]; exact heap_alloc_new wr _
              have htr : tag < r := by rw [hrr]; exact B6.lt
              have hwr : w.heap.size ≤ r := by omega
              have hmr : mb < r := by omega
              rw [← hrr, ← hW0] at hrg
              clear hW0 hrr hmlt h6 k6 B6 hla hdr hes hn6 hp6 hb6
              replace h9 := hid h9
              replace B9 := hid B9
              replace hm9 := hid hm9
              replace hr9 := hid hr9
              replace hval := hid hval
              replace hborn := hid hborn
              replace hbn := hid hbn
              go_wp2_with fail
              clear hrg
              go_loopg [] (leftOf es #[]).size (fun n w9 => ∃ seen : Array Nat, n = (leftOf es seen).size ∧ w9.heap[r]? = some (.mapIter (some mb) clock seen clock) ∧ Chg (fun i => i = r) W0 w9)
              case atStart => exact ⟨#[], rfl, hr9.out, Chg.refl _ _⟩
              case round =>
                obtain ⟨seen, rfl, hi9, k9⟩ := hrel
                have hmW : mb < W0.heap.size := (Array.getElem?_eq_some_iff.1 hm9.out).1
                have hb9 : wr.heap[mb]? = some (.map es clock) := (k9.block mb hmW (by omega)).trans hm9.out
                have hrl : r < wr.heap.size := (Array.getElem?_eq_some_iff.1 hi9).1
                rcases run_next_at (P := Try.prog) wr 0 r mb clock clock seen es clock hi9 hb9 hborn.out (Nat.le_refl _) with ⟨_, hrun⟩ | ⟨e, he, w1', hw1, hrun⟩
                · have hnx : ∀ ty, (Instr.next (.pointer (some ⟨r, 0, none⟩)) false ty).run Try.prog wr = _ := fun _ => hrun
                  have h6 := hid (h9.out.chg k9 (fun b hb => ⟨.inr hb, by omega⟩))
                  clear h9 B9 hm9 hr9 hval hborn hbn hi9 k9 hb9 hrun hr5X
                  go_wp2_with fail
                  clear hnx
                  refine (tk_all h6.out (by omega)).mono ?_
                  rintro e w7 ⟨A7, c7, rfl, h7, _⟩
                  have hln := fun ty => tk_len h7 ty
                  replace h7 := hid h7
                  clear h6
                  go_wp2_with fail
                  go_roundg (l.length - (k + 1))
                  case rel => exact ⟨k + 1, _, _, by omega, rfl, by go_num, by omega, by omega, by omega, h7.out.less (fun b hb => hb.elim)⟩
                  case measure => omega
                · obtain ⟨tv, hv, htv⟩ := hval.out e (mem_left he).1
                  rw [hv] at hrun
                  obtain ⟨W2, hW2⟩ : ∃ W2, W2 = setBlock w1' r (.mapIter (some mb) clock (seen.push e.born) clock) := ⟨_, rfl⟩
                  rw [← hW2] at hrun
                  have k2 : Chg (fun i => i = r) wr W2 := by
                    rw [hW2]
                    rcases hw1 with rfl | rfl
                    · exact setBlock_chg _ _ _
                    · exact (Chg.drew _ _).trans (setBlock_chg _ _ _)
                  have hi2 : W2.heap[r]? = some (.mapIter (some mb) clock (seen.push e.born) clock) := by
                    rw [hW2]
                    rcases hw1 with rfl | rfl
                    · exact setBlock_at hrl _
                    · exact setBlock_at (w := wr.drew) hrl _
                  have hb2 : W2.heap[mb]? = some (.map es clock) := (k2.block mb (by have := k9.size; omega) (by omega)).trans hb9
                  have hnx : ∀ ty, (Instr.next (.pointer (some ⟨r, 0, none⟩)) false ty).run Try.prog wr = _ := fun _ => hrun
                  have hen := run_entry_at (P := Try.prog) W2 r mb clock seen es clock e hi2 hb2 (mem_left he).1 hbn.out
                  rw [hv] at hen
                  have B2 := B9.out.chg (k9.trans k2) (by omega)
                  have a2 : W2.cell? ⟨tag, 2, none⟩ = some (.int .i64 at_) := B2.cell 2
                  have kk := hid (k9.trans k2)
                  replace hi2 := hid hi2
                  have hme := hid (left_shrinks es seen e he)
                  clear h9 B9 hm9 hr9 hval hborn hbn hi9 k9 hb9 hrun hr5X hW2 hw1 k2 hb2 B2 he
                  go_wp2_with fail
                  go_roundg (leftOf es (seen.push e.born)).size
                  case rel => exact ⟨seen.push e.born, rfl, hi2.out, kk.out⟩
                  case measure => exact hme.out
        · have h6 := TA
          clear TA BA hbl
          go_wp2_with fail
          refine (tk_all h6.out (by omega)).mono ?_
          rintro e w7 ⟨A7, c7, rfl, h7, _⟩
          have hln := fun ty => tk_len h7 ty
          replace h7 := hid h7
          clear h6
          go_wp2_with fail
          go_roundg (l.length - (k + 1))
          case rel => exact ⟨k + 1, _, _, by omega, rfl, by go_num, by omega, by omega, by omega, h7.out.less (fun b hb => hb.elim)⟩
          case measure => omega
end Go.Proofs.Ytllkeifldfmbkaa
