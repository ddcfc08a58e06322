/- Contracts of package mark: the walk of Live. -/
import Derived.Test.YtlkfbmebeodbmaaLive
set_option linter.unusedVariables false
namespace Go.Proofs.Ytlkfbmebeodbmaa
open Go.RowKit Go.Thr

theorem list_pop {T : List Int} (h : 0 < T.length) : ∃ T0 x, T = T0 ++ [x] ∧ T0.length + 1 = T.length ∧ T.getD (T.length - 1) 0 = x := by
  have hne : T ≠ [] := by intro e; subst e; simp at h
  refine ⟨T.dropLast, T.getLast hne, (List.dropLast_concat_getLast hne).symm, by rw [List.length_dropLast]; omega, ?_⟩
  rw [List.getD_eq_getElem?_getD, List.getElem?_eq_getElem (by omega), List.getLast_eq_getElem]; rfl

set_option maxRecDepth 100000 in
set_option maxHeartbeats 2000000 in
theorem live_any (w : World) (p : Nat) (v : Value) (d : Option Nat) (W : List Int) (z : Int) (H : Ar w p v d W z) (vr : Value) (dr : Option Nat) (R : List Int) (HR : Ws w vr dr R) (L : List Nat) (hS : Snd W R L) (hRl : R.length ≤ 1000000000) :
    Calls Try.prog 53 #[.pointer (some ⟨p, 0, none⟩), vr] w fun e w' => ∃ v1 d1 M, e = .returned (.tuple #[v1, .bool true]) ∧ Row w' 3 1 v1 d1 M.length (nats M) ∧ LiveL W R M ∧ Only w w' ∧ (∀ b, d1 = some b → w.heap.size ≤ b) := by
  have hl := H.len
  have hm := H.max
  have hp := H.blk.lt
  have hH := Lib.hid H
  have hHR := Lib.hid HR
  have hHS := Lib.hid hS
  obtain ⟨Ax, capr, hvr⟩ := HR.row.shape
  subst hvr
  have hmk := fun W0 => run_make_row' (P := Try.prog) 40 4 (.bool false) 1 Try.underlying40 info_bool rfl .i64 .i64 W.length (by omega) (by omega) W0
  clear H HR hS
  go_enter Try.func53, Try.ntmps53
  have hz := Row.zeros w 4 (.bool false) W.length (by omega)
  go_wp2_with (first | (go_at_call 26; refine (used_any _ _ _ _ _ _ hH.out).mono ?_; rintro e w2 ⟨rfl, rfl⟩) | (go_at_call 66; refine (clone_words _ _ _ _ (hHR.out.only ((Kept.refl _ _).alloc _)) hRl).mono ?_; rintro e w1 ⟨v7, d7, rfl, hT, hk1, hd7⟩))
  clear hmk
  have hRB := hz.kept hk1 (fun _ _ h => h)
  have hkw : Only w w1 := ((Kept.refl _ w).alloc _).then hk1
  obtain ⟨g6, hg6⟩ : ∃ g, g = w.heap.size := ⟨_, rfl⟩
  rw [← hg6] at hRB ⊢
  have hg6' : w.heap.size ≤ g6 := by omega
  have hd7' : ∀ b, d7 = some b → w.heap.size ≤ b := fun b hb => by have := hd7 b hb; simp at this; omega
  clear hz hk1 hd7 hg6
  obtain ⟨M0, hM0⟩ : ∃ M0, M0 = R.length + W.length * (W.length + 1) := ⟨_, rfl⟩
  have hM1 : M0 ≤ 2000000000000 := by
    have : W.length * (W.length + 1) ≤ 1048576 * 1048577 := Nat.mul_le_mul (by omega) (by omega)
    omega
  have HM0 := Lib.hid hM0
  clear hM0
  go_loopg [7] (M0 + 1) (fun gk sv wx => ∃ (B : List Bool) (T : List Int) (d7 : Option Nat), Row wx 4 1 (.slice (some ⟨g6, 0, none⟩) W.length W.length) (some g6) W.length (bools B) ∧ Ws wx sv d7 T ∧ LInv W R L B T ∧ Only w wx ∧ (∀ b, d7 = some b → w.heap.size ≤ b) ∧ cnt B * (W.length + 1) + T.length + 1 ≤ gk ∧ gk ≤ M0 + 1)
  case atStart =>
    refine ⟨List.replicate W.length false, R, d7, by simpa [bools] using hRB, hT, LInv.start hHS.out, hkw, hd7', ?_, by omega⟩
    rw [cnt_replicate, HM0.out]; omega
  case round =>
    clear hRB hT hkw hd7'
    obtain ⟨B, T, d7, hRB, hT, hI, hkw, hd7, hM, hgk⟩ := hrel
    by_cases hTn : 0 < T.length
    · obtain ⟨T0, x, rfl, hTl, hTl2⟩ := list_pop hTn
      clear hTl hTl2
      obtain ⟨g7, c7, rfl, rfl, hc7⟩ := hT.row.head hTn
      have hx := hT.rng.get T0.length
      have ct := (hT.row.cellAt T0.length (by simp)).trans (words_get _ T0.length (by simp))
      have hTx : (T0 ++ [x]).getD T0.length 0 = x := by simp
      rw [hTx] at ct hx
      have hcut := hT.row.cut (k := T0.length) (by simp)
      rw [Nat.mul_one, ← words_take, List.take_left] at hcut
      have hcutW : Ws wr (.slice (some ⟨g7, 0, none⟩) T0.length c7) (some g7) T0 := ⟨hcut, fun y hy => hT.rng y (by simp [hy])⟩
      have hTm := hT.row.max
      simp only [List.length_append, List.length_cons, List.length_nil, Nat.zero_add] at hTm hTn hM hc7 ⊢
      have HT := Lib.hid hT
      have HC := Lib.hid hcutW
      have HI := Lib.hid hI
      have HRB := Lib.hid hRB
      have hBl := hI.len
      have hxS := (hI.todo x (by simp)).1
      clear hT hcut hcutW hI hRB
      by_cases h5 : tg x = 5
      · have e5 : (tg x == 5) = true := by simp [h5]
        have e5' : (tg x != 5) = false := by simp [h5]
        have hv := hxS.2.2 h5
        obtain ⟨j, hj⟩ := Int.eq_ofNat_of_zero_le hv.1
        have hjm := hv.2
        rw [hj, Int.toNat_natCast] at hjm
        obtain ⟨_, hjw, h, ho, hjz⟩ := hHS.out.segs.lt _ hjm
        have HJ := Lib.hid hj
        have HO := Lib.hid ho
        have H5 := Lib.hid h5
        have hA := Lib.hid (hH.out.only hkw)
        have cj := (HRB.out.cellAt j (by omega)).trans (bools_get B j (by omega))
        have fj := HRB.out.frozenAt j
        have hg6l := HRB.out.lt rfl
        have hg7l := HT.out.row.lt rfl
        obtain ⟨hk', hz', ht', hn'⟩ := h
        have hrng := obj_range ho
        simp only at hrng hjz
        clear hj ho h5 hv hxS
        by_cases hseen : B.getD j false = true
        · rw [hseen] at cj
          have HSn := Lib.hid hseen
          clear hseen
          go_wp2_with (first | (go_at_call 44; refine (tag_any _ _ hx.1 hx.2).mono ?_; rintro e w' ⟨rfl, rfl⟩) | (go_at_call 32; refine (value_any _ _ hx.1 hx.2).mono ?_; rw [HJ.out]; rintro e w' ⟨rfl, rfl⟩) | (go_at_call 38; refine (object_some _ _ _ _ _ _ hA.out _ _ HO.out).mono ?_; rintro e w1 ⟨rfl, hk1⟩; have cj1 := hk1.cell (p := ⟨g6, j, none⟩) (fun h => h) cj; have hg6b : g6 < w1.heap.size := Nat.lt_of_lt_of_le hg6l hk1.size))
          go_roundg (gk - 1)
          case measure => omega
          case rel =>
            refine ⟨B, T0, some g7, (HRB.out.kept (by assumption) (fun _ _ h => h)).alloc _, ⟨(HC.out.row.kept (by assumption) (fun _ _ h => h)).alloc _, HC.out.rng⟩, HI.out.pop (.inr ?_), (hkw.then (by assumption)).alloc _, hd7, by omega, by omega⟩
            rw [HJ.out]; exact HSn.out
        · have hsf : B.getD j false = false := by simpa using hseen
          rw [hsf] at cj
          have HSn := Lib.hid hsf
          have hf := (hHS.out.fields j hjm _ HO.out).1
          have HFld := Lib.hid hf
          simp only at hf
          have hF0 : 0 ≤ fieldsOf ⟨hk', hz', ht', hn'⟩ := by unfold fieldsOf; simp only; split; decide; split; omega; decide
          have HFl : Hid (fieldsOf ⟨hk', hz', ht', hn'⟩ = ((fieldsOf ⟨hk', hz', ht', hn'⟩).toNat : Int)) := Lib.hid (by omega)
          obtain ⟨nf, hnf⟩ : ∃ nf, nf = (fieldsOf ⟨hk', hz', ht', hn'⟩).toNat := ⟨_, rfl⟩
          rw [← hnf] at HFl
          have hnfz : (nf : Int) ≤ hz' := by rw [← HFl.out]; exact hf
          have HNF := Lib.hid hnf
          clear hnf hf hF0 hseen hsf
          go_wp2_with (first | (go_at_call 44; refine (tag_any _ _ hx.1 hx.2).mono ?_; rintro e w' ⟨rfl, rfl⟩) | (go_at_call 32; refine (value_any _ _ hx.1 hx.2).mono ?_; rw [HJ.out]; rintro e w' ⟨rfl, rfl⟩) | (go_at_call 38; refine (object_some _ _ _ _ _ _ hA.out _ _ HO.out).mono ?_; rintro e w1 ⟨rfl, hk1⟩; have cj1 := hk1.cell (p := ⟨g6, j, none⟩) (fun h => h) cj; have hg6b : g6 < w1.heap.size := Nat.lt_of_lt_of_le hg6l hk1.size; have HRB1 := Lib.hid (HRB.out.kept hk1 (fun _ _ h => h)); have fj1 := HRB1.out.frozenAt j; have HC1 := Lib.hid (Ws.only HC.out hk1); have hK1 := hkw.then hk1; have hA1 := Lib.hid (hA.out.only hk1)))
          have hB1 := (Blk.new (w1.setCell ⟨g6, j, none⟩ (.bool true)) 36 [.int .i64 hk', .int .i64 hz', .int .i64 ht', .bool hn'])
          have hB1' : Blk ((w1.setCell ⟨g6, j, none⟩ (.bool true)).alloc (.cells #[.int .i64 hk', .int .i64 hz', .int .i64 ht', .bool hn'] 36)) w1.heap.size 36 [.int .i64 hk', .int .i64 hz', .int .i64 ht', .bool hn'] := by simpa using hB1
          have b0 := hB1'.cell 0 rfl
          have b1 := hB1'.cell 1 rfl
          have b2 := hB1'.cell 2 rfl
          have b3 := hB1'.cell 3 rfl
          go_region_held3 (fun w' => w'.cell? ⟨w1.heap.size, 0, none⟩ = some (.int .i64 hk') ∧ w'.cell? ⟨w1.heap.size, 1, none⟩ = some (.int .i64 hz') ∧ w'.cell? ⟨w1.heap.size, 2, none⟩ = some (.int .i64 ht') ∧ w'.cell? ⟨w1.heap.size, 3, none⟩ = some (.bool hn')) (go_keep)
            (first | (go_at_call 65; refine (fields_eq _ _ _ _ _).mono ?_; rw [HFl.out]; rintro e w' ⟨rfl, rfl⟩))
          go_wp2_with fail
          have hKs := Kept.setCell (S := fun k => k = g6) (Kept.refl _ w1) (p := ⟨g6, j, none⟩) (.inl rfl) (.bool true)
          have hA5 := Lib.hid ((((hA1.out.kept hKs (by intro e; omega) (fun g hg e => by have := hH.out.ws.row.lt hg; omega)).alloc (.cells #[.int .i64 hk', .int .i64 hz', .int .i64 ht', .bool hn'] 36)).alloc (.cells #[.int .i64 hk', .int .i64 hz', .int .i64 ht', .bool hn'] 36)).drew)
          have HC5 := Lib.hid ((((HC1.out.kept hKs (fun g hg e => HRB1.out.ne_row HC1.out.row (by decide) g6 rfl (by rw [hg, e]))).row.alloc (.cells #[.int .i64 hk', .int .i64 hz', .int .i64 ht', .bool hn'] 36)).alloc (.cells #[.int .i64 hk', .int .i64 hz', .int .i64 ht', .bool hn'] 36)).drew)
          have HRB5 := Lib.hid ((((HRB1.out.store j (.bool true)).alloc (.cells #[.int .i64 hk', .int .i64 hz', .int .i64 ht', .bool hn'] 36)).alloc (.cells #[.int .i64 hk', .int .i64 hz', .int .i64 ht', .bool hn'] 36)).drew)
          have hK5 : Only w (((w1.setCell ⟨g6, j, none⟩ (.bool true)).alloc (.cells #[.int .i64 hk', .int .i64 hz', .int .i64 ht', .bool hn'] 36)).alloc (.cells #[.int .i64 hk', .int .i64 hz', .int .i64 ht', .bool hn'] 36)).drew := (((hK1.setCell (.inr hg6') _).alloc (.cells #[.int .i64 hk', .int .i64 hz', .int .i64 ht', .bool hn'] 36)).alloc (.cells #[.int .i64 hk', .int .i64 hz', .int .i64 ht', .bool hn'] 36)).drew
          have hmul : (cnt (B.set j true) + 1) * (W.length + 1) ≤ cnt B * (W.length + 1) := Nat.mul_le_mul_right _ (by rw [cnt_set B j (by omega) HSn.out]; exact Nat.le_refl _)
          rw [Nat.succ_mul] at hmul
          generalize hcb : cnt (B.set j true) * (W.length + 1) = cb at hmul
          have HCB := Lib.hid hcb
          clear hcb
          clear b0 b1 b2 b3 hB1 hB1' hKs cj1 fj1 cj fj ct HC1 HRB1 hA1 hK1
          generalize ((((w1.setCell ⟨g6, j, none⟩ (.bool true)).alloc (.cells #[.int .i64 hk', .int .i64 hz', .int .i64 ht', .bool hn'] 36)).alloc (.cells #[.int .i64 hk', .int .i64 hz', .int .i64 ht', .bool hn'] 36)).drew) = w5 at *
          go_loopw [7, 64] (fun sv iv wx => ∃ (k : Nat) (d7' : Option Nat), iv = .int .i64 k ∧ k ≤ nf ∧ Row wx 4 1 (.slice (some ⟨g6, 0, none⟩) W.length W.length) (some g6) W.length (bools (B.set j true)) ∧ Ws wx sv d7' (T0 ++ fieldW W j k) ∧ Only w wx ∧ (∀ b, d7' = some b → w.heap.size ≤ b)) (fun _ iv _ => nf - (intOf iv).toNat)
          case atStart =>
            refine ⟨0, some g7, rfl, by omega, ?_, ?_, hK5, hd7⟩
            · rw [bools_set]; exact HRB5.out
            · simp only [fieldW, List.range_zero, List.map_nil, List.append_nil]; exact ⟨HC5.out, HC.out.rng⟩
          case round =>
            obtain ⟨k, d7', rfl, hk, hRBx, hTx, hkx, hd7x⟩ := hrel
            have hAx := Lib.hid (hH.out.only hkx)
            have HRBx := Lib.hid hRBx
            have HTx := Lib.hid hTx
            have hTl : (T0 ++ fieldW W j k).length = T0.length + k := by simp [fieldW]
            obtain ⟨Ay, cy, hvy⟩ := hTx.row.shape
            subst hvy
            have HTy : Hid (Row wr 32 1 (.slice Ay (T0.length + k) cy) d7' (T0.length + k) (words (T0 ++ fieldW W j k))) := Lib.hid (by rw [← hTl]; exact hTx.row)
            rw [hTl]
            clear hTl hRBx hTx
            by_cases hlt : k < nf
            · have hgw : getW W ((j : Int) + 1 + k) = W.getD (j + 1 + k) 0 := by
                unfold getW; rw [if_pos (by omega)]; congr 1
              have hin : decide (0 ≤ (j : Int) + 1 + k ∧ (j : Int) + 1 + k < (W.length : Int)) = true := by simp; omega
              have hyr := hAx.out.ws.rng.get (j + 1 + k)
              have hfk : fieldW W j (k + 1) = fieldW W j k ++ [W.getD (j + 1 + k) 0] := by simp [fieldW, List.range_succ]
              generalize W.getD (j + 1 + k) 0 = y at *
              have HFK := Lib.hid hfk
              clear hfk
              go_wp2_with (first | (go_at_call 39; refine (get_any _ _ _ _ _ _ hAx.out _ ⟨by omega, by omega⟩).mono ?_; rw [hgw, hin]; rintro e w2 ⟨rfl, rfl⟩) | (at_builtin; refine wpList_push1 rfl _ _ _ 32 (.int .u64 0) 8 rfl under_words info_word rfl (by decide) _ d7' _ (words (T0 ++ fieldW W j k)) (.int .u64 y) rfl _ rfl rfl rfl (by exact HTy.out) (by omega) ?_; intro v2 d2 w2 hR2 hk2 hd2; obtain ⟨A2, cap2, rfl⟩ := hR2.shape))
              go_roundw
              case rel =>
                refine ⟨k + 1, d2, by go_num, by omega, ?_, ⟨?_, ?_⟩, ?_, ?_⟩
                · exact HRBx.out.kept hk2 (fun g hg he => HRBx.out.ne_row HTx.out.row (by decide) g hg he.symm)
                · rw [HFK.out, ← List.append_assoc, words_append]
                  have : ((T0 ++ fieldW W j k) ++ [y]).length = T0.length + k + 1 := by simp [fieldW]; omega
                  rw [this]; exact hR2
                · rw [HFK.out, ← List.append_assoc]
                  intro u hu
                  rcases List.mem_append.1 hu with hu | hu
                  · exact HTx.out.rng u hu
                  · simp at hu; subst hu; exact hyr
                · exact hkx.trans hk2 (fun x hx he => by have := hd7x x he.symm; omega)
                · intro b hb
                  rcases hd2 with h | ⟨c, hc, hle⟩
                  · exact hd7x b (h ▸ hb)
                  · have h1 := hkx.size; rw [hc] at hb; simp at hb hle; omega
              case measure => simp [intOf]; omega
            · obtain rfl : k = nf := by omega
              go_wp2
              go_roundg (gk - 1)
              case measure => omega
              case rel =>
                have el : (T0 ++ fieldW W j k).length = T0.length + k := by simp [fieldW]
                refine ⟨B.set j true, T0 ++ fieldW W j k, d7', HRBx.out, ⟨by rw [el]; exact HTy.out, HTx.out.rng⟩, ?_, hkx, hd7x, ?_, by omega⟩
                · have := HI.out.open hHS.out H5.out (by rw [HJ.out]; exact hjw) (h := ⟨hk', hz', ht', hn'⟩) (by rw [HJ.out]; exact HO.out)
                  rw [HJ.out, Int.toNat_natCast, ← HNF.out] at this
                  exact this
                · rw [HCB.out]; simp [fieldW]; omega
      · have e5 : (tg x == 5) = false := by simp [h5]
        have e5' : (tg x != 5) = true := by simp [h5]
        have H5 := Lib.hid h5
        clear h5 hxS
        go_wp2_with (first | (go_at_call 44; refine (tag_any _ _ hx.1 hx.2).mono ?_; rintro e w' ⟨rfl, rfl⟩))
        go_roundg (gk - 1)
        case measure => omega
        case rel => exact ⟨B, T0, some g7, HRB.out, HC.out, HI.out.pop (.inl H5.out), hkw, hd7, by omega, by omega⟩
    · obtain rfl : T = [] := List.eq_nil_of_length_eq_zero (by omega)
      have hLv := Lib.hid hI.live
      have hBl := hI.len
      have HRB := Lib.hid hRB
      obtain ⟨Ay, cy, hvy⟩ := hT.row.shape
      subst hvy
      clear hI hRB hT hM hTn
      simp only [List.length_nil]
      go_wp2
      obtain ⟨wo, hwo⟩ : ∃ wo : World, wo = wr := ⟨_, rfl⟩
      subst hwo
      go_loopw [15, 83] (fun sv iv wx => ∃ (k : Nat) (d1 : Option Nat), iv = .int .i64 k ∧ k ≤ W.length ∧ Row wx 3 1 sv d1 ((List.range k).filter fun i => B.getD i false).length (nats ((List.range k).filter fun i => B.getD i false)) ∧ Only wo wx ∧ (∀ b, d1 = some b → wo.heap.size ≤ b)) (fun _ iv _ => W.length - (intOf iv).toNat)
      case atStart => exact ⟨0, none, rfl, by omega, Row.nil _ _ _, Kept.refl _ _, by simp⟩
      case round =>
        obtain ⟨k, d1, rfl, hk, hR1, hkx, hd1⟩ := hrel
        have hRBx := HRB.out.kept hkx (fun _ _ h => h)
        obtain ⟨A1, c1, hv1⟩ := hR1.shape
        subst hv1
        by_cases hlt : k < W.length
        · have ck := (hRBx.cellAt k (by omega)).trans (bools_get B k (by omega))
          have hfl : (List.range (k + 1)).filter (fun i => B.getD i false) = (List.range k).filter (fun i => B.getD i false) ++ if B.getD k false then [k] else [] := by
            rw [List.range_succ, List.filter_append]; congr 1; simp [List.filter_cons]
          have hll : ((List.range k).filter fun i => B.getD i false).length ≤ k := by have := List.length_filter_le (fun i => B.getD i false) (List.range k); simpa using this
          have HFL := Lib.hid hfl
          clear hfl
          generalize (List.range k).filter (fun i => B.getD i false) = Lk at *
          have HR1 := Lib.hid hR1
          clear hR1 hRBx
          by_cases hb : B.getD k false = true
          · rw [hb] at ck
            have HFL' : Hid ((List.range (k + 1)).filter (fun i => B.getD i false) = Lk ++ [k]) := Lib.hid (by rw [HFL.out, hb]; rfl)
            clear HFL hb
            go_wp2_with (at_builtin; refine wpList_push1 rfl _ _ _ 3 (.int .i64 0) 8 rfl under_ints info_int rfl (by decide) _ d1 _ (nats Lk) (.int .i64 k) rfl _ rfl rfl rfl (by exact HR1.out) (by omega) ?_; intro v2 d2 w2 hR2 hk2 hd2; obtain ⟨A2, cap2, rfl⟩ := hR2.shape)
            go_roundw
            case rel =>
              refine ⟨k + 1, d2, by go_num, by omega, ?_, ?_, ?_⟩
              · rw [HFL'.out, nats_append, List.length_append]; exact hR2
              · exact hkx.trans hk2 (fun x hx he => by have := hd1 x he.symm; omega)
              · intro b hb
                rcases hd2 with h | ⟨c, hc, hle⟩
                · exact hd1 b (h ▸ hb)
                · have h1 := hkx.size; rw [hc] at hb; simp at hb hle; omega
            case measure => simp [intOf]; omega
          · have hb' : B.getD k false = false := by simpa using hb
            rw [hb'] at ck
            have HFL' : Hid ((List.range (k + 1)).filter (fun i => B.getD i false) = Lk) := Lib.hid (by rw [HFL.out, hb']; simp)
            clear HFL hb hb'
            go_wp2
            go_roundw
            case rel => exact ⟨k + 1, d1, by go_num, by omega, by rw [HFL'.out]; exact HR1.out, hkx, hd1⟩
            case measure => simp [intOf]; omega
        · obtain rfl : k = W.length := by omega
          have HR1 := Lib.hid hR1
          clear hR1 hRBx
          go_wp2
          go_ret2
          exact ⟨_, d1, _, rfl, HR1.out, hLv.out, hkw.then hkx, fun b hb => by have := hd1 b hb; have := hkw.size; omega⟩
end Go.Proofs.Ytlkfbmebeodbmaa
