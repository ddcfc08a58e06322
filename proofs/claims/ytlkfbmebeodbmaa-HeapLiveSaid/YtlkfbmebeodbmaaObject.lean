/- Contracts of package arena: the object at a place. -/
import Derived.Test.YtlkfbmebeodbmaaArena
set_option linter.unusedVariables false
namespace Go.Proofs.Ytlkfbmebeodbmaa
open Go.RowKit Go.Thr

/-- The header of the object at a place. -/
def obj (W : List Int) (i : Int) : Option Hd :=
  if 0 ≤ i ∧ i < W.length ∧ isHd (W.getD i.toNat 0) = true ∧ (hdOf (W.getD i.toNat 0)).size < W.length - i then some (hdOf (W.getD i.toNat 0)) else none
theorem obj_some {W : List Int} {i : Int} {h : Hd} (e : obj W i = some h) : 0 ≤ i ∧ i < W.length ∧ isHd (W.getD i.toNat 0) = true ∧ h = hdOf (W.getD i.toNat 0) ∧ h.size < W.length - i := by
  unfold obj at e
  split at e
  · rename_i hh
    have := Option.some.inj e
    subst this
    exact ⟨hh.1, hh.2.1, hh.2.2.1, rfl, hh.2.2.2⟩
  · cases e
theorem hdOf_range (x : Int) : 0 ≤ (hdOf x).kind ∧ (hdOf x).kind < 4 ∧ 0 ≤ (hdOf x).size ∧ (hdOf x).size < 1048576 ∧ 0 ≤ (hdOf x).tree ∧ (hdOf x).tree < 1048576 := by
  unfold hdOf; simp only; omega
theorem obj_range {W : List Int} {i : Int} {h : Hd} (e : obj W i = some h) : 0 ≤ h.kind ∧ h.kind < 4 ∧ 0 ≤ h.size ∧ h.size < 1048576 ∧ 0 ≤ h.tree ∧ h.tree < 1048576 := by
  obtain ⟨_, _, _, rfl, _⟩ := obj_some e
  exact hdOf_range _

section
variable (w : World) (p : Nat) (v : Value) (d : Option Nat) (W : List Int) (z : Int) (H : Ar w p v d W z)
include H

theorem object_in (i : Nat) (hi : i < W.length) (h : Hd) (ok : Bool) (hh : rdHd (W.getD i 0) = h) (hok : isHd (W.getD i 0) = ok) (hz : 0 ≤ h.size ∧ h.size < 1048576) (q : Bool) (hq : decide ((W.length : Int) - i ≤ h.size) = q) :
    Calls Try.prog 38 #[.pointer (some ⟨p, 0, none⟩), .int .i64 i] w fun e w' =>
    e = .returned (if ok && !q then .tuple #[h.val, .bool true] else .tuple #[.agg #[.int .i64 0, .int .i64 0, .int .i64 0, .bool false], .bool false]) ∧ Only w w' := by
  have hl := H.len
  have hm := H.max
  have hp := H.blk.lt
  obtain ⟨g, cap, hv, rfl, hc⟩ := H.ws.row.head (by omega)
  subst hv
  have c0 := H.blk.cell 0 rfl
  have c1 := (H.ws.row.cellAt i (by omega)).trans (words_get W i hi)
  have hr := H.ws.rng.get i
  have hg := H.ws.row.lt rfl
  have hH := Lib.hid H
  clear H
  generalize hx : W.getD i 0 = x at *
  have hH2 := Lib.hid (And.intro hh hok)
  clear hh hok hx
  obtain ⟨k, z', t, ng⟩ := h
  have hd0 : decide ((i : Int) < 0) = false := by simp
  have hd1 : decide (W.length ≤ i) = false := by simp; omega
  have hw : IntKind.i64.wrap ((W.length : Int) - i) = W.length - i := by rw [IntKind.wrap_i64]; omega
  simp only at hz hq
  go_enter Try.func38, Try.ntmps38
  go_wp2_with (go_at_call 48; refine (read_any _ _ (by omega) (by omega)).mono ?_; rw [hH2.out.1, hH2.out.2]; rintro e w1 ⟨rfl, hk1⟩; have hA1 := (hH.out.alloc _).only hk1; have c2 := hA1.blk.cell 0 rfl; have hB1 := (Blk.new w 36 [.int .i64 0, .int .i64 0, .int .i64 0, .bool false]).kept hk1 (fun h => h); have b0 := hB1.cell 0 rfl; have b1 := hB1.cell 1 rfl; have b2 := hB1.cell 2 rfl; have b3 := hB1.cell 3 rfl; have g0 := hB1.frozen 0; have g1 := hB1.frozen 1; have g2 := hB1.frozen 2; have g3 := hB1.frozen 3; have hs1 := hB1.lt; have hp1 := hA1.blk.lt)
  have hk2 : Only w w1 := ((Kept.refl _ w).alloc _).then (by assumption)
  cases ok with
  | false =>
    go_quiet (fail)
    go_wp2
    have hF := ((hB1.alloc (.cells #[.int .i64 k, .int .i64 z', .int .i64 t, .bool ng] 36)).drewN nq).set4 (.int .i64 0) (.int .i64 0) (.int .i64 0) (.bool false)
    exact bodyPost_ret (v := .tuple #[.agg #[.int .i64 0, .int .i64 0, .int .i64 0, .bool false], .bool false]) (by simp [results, Try.results38, go_sem, hF.cell 0 rfl, hF.cell 1 rfl, hF.cell 2 rfl, hF.cell 3 rfl]) rfl ⟨rfl, ((hk2.alloc _).drewN _).set4 (Nat.le_refl _) _ _ _ _ _ _ _ _⟩
  | true =>
    cases q with
    | true =>
      go_quiet (fail)
      go_wp2
      have hF := ((hB1.alloc (.cells #[.int .i64 k, .int .i64 z', .int .i64 t, .bool ng] 36)).drewN nq).set4 (.int .i64 0) (.int .i64 0) (.int .i64 0) (.bool false)
      exact bodyPost_ret (v := .tuple #[.agg #[.int .i64 0, .int .i64 0, .int .i64 0, .bool false], .bool false]) (by simp [results, Try.results38, go_sem, hF.cell 0 rfl, hF.cell 1 rfl, hF.cell 2 rfl, hF.cell 3 rfl]) rfl ⟨rfl, ((hk2.alloc _).drewN _).set4 (Nat.le_refl _) _ _ _ _ _ _ _ _⟩
    | false =>
      go_quiet (fail)
      go_wp2
      have hF := ((hB1.alloc (.cells #[.int .i64 k, .int .i64 z', .int .i64 t, .bool ng] 36)).drewN nq).set4 (.int .i64 k) (.int .i64 z') (.int .i64 t) (.bool ng)
      exact bodyPost_ret (v := .tuple #[.agg #[.int .i64 k, .int .i64 z', .int .i64 t, .bool ng], .bool true]) (by simp [results, Try.results38, go_sem, hF.cell 0 rfl, hF.cell 1 rfl, hF.cell 2 rfl, hF.cell 3 rfl]) rfl ⟨rfl, ((hk2.alloc _).drewN _).set4 (Nat.le_refl _) _ _ _ _ _ _ _ _⟩

theorem object_out (i : Int) (hi : i < 0 ∨ W.length ≤ i) (hi64 : I64 i) :
    Calls Try.prog 38 #[.pointer (some ⟨p, 0, none⟩), .int .i64 i] w fun e w' =>
    e = .returned (.tuple #[.agg #[.int .i64 0, .int .i64 0, .int .i64 0, .bool false], .bool false]) ∧ Only w w' := by
  have hl := H.len
  have hm := H.max
  have hp := H.blk.lt
  obtain ⟨A, cap, hv⟩ := H.ws.row.shape
  subst hv
  have c0 := H.blk.cell 0 rfl
  obtain ⟨h0, h1⟩ := hi64
  by_cases hn : i < 0
  · clear hi
    go_enter Try.func38, Try.ntmps38
    go_wp2
    exact bodyPost_ret (v := .tuple #[.agg #[.int .i64 0, .int .i64 0, .int .i64 0, .bool false], .bool false]) (by simp [results, Try.results38, go_sem]) rfl ⟨rfl, (Kept.refl _ w).alloc _⟩
  · have hi' : (W.length : Int) ≤ i := by omega
    have hn0 : 0 ≤ i := by omega
    clear hi hn
    go_enter Try.func38, Try.ntmps38
    go_wp2
    exact bodyPost_ret (v := .tuple #[.agg #[.int .i64 0, .int .i64 0, .int .i64 0, .bool false], .bool false]) (by simp [results, Try.results38, go_sem]) rfl ⟨rfl, (Kept.refl _ w).alloc _⟩

theorem object_some (i : Int) (h : Hd) (hh : obj W i = some h) : Calls Try.prog 38 #[.pointer (some ⟨p, 0, none⟩), .int .i64 i] w fun e w' =>
    e = .returned (.tuple #[h.val, .bool true]) ∧ Only w w' := by
  obtain ⟨h0, h1, h2, h3, h4⟩ := obj_some hh
  have hz := obj_range hh
  obtain ⟨j, rfl⟩ := Int.eq_ofNat_of_zero_le h0
  simp only [Int.toNat_natCast] at h2 h3
  have hr : rdHd (W.getD j 0) = h := by rw [rdHd, if_pos h2, h3]
  refine (object_in w p v d W z H j (by omega) h true hr h2 ⟨hz.2.2.1, hz.2.2.2.1⟩ false (by simp; omega)).mono ?_
  rintro e w' ⟨he, hk⟩
  exact ⟨by simpa using he, hk⟩

theorem object_none (i : Int) (hh : obj W i = none) (hi64 : I64 i) : Calls Try.prog 38 #[.pointer (some ⟨p, 0, none⟩), .int .i64 i] w fun e w' =>
    e = .returned (.tuple #[.agg #[.int .i64 0, .int .i64 0, .int .i64 0, .bool false], .bool false]) ∧ Only w w' := by
  by_cases hi : i < 0 ∨ (W.length : Int) ≤ i
  · exact object_out w p v d W z H i hi hi64
  · obtain ⟨j, rfl⟩ := Int.eq_ofNat_of_zero_le (show 0 ≤ i by omega)
    have hj : j < W.length := by omega
    have hr : 0 ≤ (rdHd (W.getD j 0)).size ∧ (rdHd (W.getD j 0)).size < 1048576 := by
      unfold rdHd; split
      · exact ⟨(hdOf_range _).2.2.1, (hdOf_range _).2.2.2.1⟩
      · simp
    refine (object_in w p v d W z H j hj _ _ rfl rfl hr _ rfl).mono ?_
    rintro e w' ⟨he, hk⟩
    refine ⟨?_, hk⟩
    rw [he, if_neg]
    intro hc
    simp only [Bool.and_eq_true, Bool.not_eq_true', decide_eq_false_iff_not] at hc
    have : obj W (j : Int) = some (hdOf (W.getD j 0)) := by
      unfold obj
      rw [if_pos]; simp
      refine ⟨by omega, by omega, by simpa using hc.1, ?_⟩
      have := hc.2; rw [rdHd, if_pos hc.1] at this
      simpa using (show (hdOf (W.getD j 0)).size < (W.length : Int) - j by omega)
    rw [this] at hh; cases hh

/-- build.Fresh: an object of noughts behind the used words. -/
theorem fresh_ok (k t : Int) (n : Nat) (g : Bool) (hk : 0 ≤ k ∧ k ≤ 3) (hn : n < 1048576) (ht : 0 ≤ t ∧ t < 1048576) (hz : 1 + (n : Int) ≤ z - W.length) :
    Calls Try.prog 30 #[.pointer (some ⟨p, 0, none⟩), .agg #[.int .i64 k, .int .i64 n, .int .i64 t, .bool g]] w fun e w' =>
    e = .returned (.tuple #[.int .u64 (mkw 5 W.length), .bool true]) ∧ ∃ v' d', Ar w' p v' d' (W ++ mkHd ⟨k, n, t, g⟩ :: List.replicate n 0) z ∧ Kept (foot p d) w w' ∧ (d' = d ∨ ∃ b, d' = some b ∧ w.heap.size ≤ b) := by
  have hl := H.len
  have hm := H.max
  have hp := H.blk.lt
  have hH := Lib.hid H
  have hx : tg (mkHd ⟨k, n, t, g⟩) = 6 := by
    unfold mkHd; rw [if_pos ⟨hk.1, hk.2, by simp, by simp; omega, ht.1, ht.2⟩]; exact tg_mkw (by omega) (by omega)
  have hxr : 0 ≤ mkHd ⟨k, n, t, g⟩ ∧ mkHd ⟨k, n, t, g⟩ < 18446744073709551616 := by
    unfold mkHd; split
    · exact mkw_range _ _
    · decide
  clear H
  generalize hX : mkHd ⟨k, n, t, g⟩ = X at *
  have HX := Lib.hid hX
  clear hX
  have ht : ((tg X) == 6) = true := by simp [hx]
  have ht' : ((tg X) != 6) = false := by simp [hx]
  clear hx
  have hof : ofW 5 (W.length : Int) = mkw 5 W.length := by unfold ofW; rw [if_pos (by omega)]
  go_enter Try.func30, Try.ntmps30
  go_wp2_with fail
  refine (make_any _ _ _ _ _).mono ?_
  rw [HX.out]
  rintro e w1 ⟨rfl, hk1⟩
  have hA1 := (hH.out.alloc (.cells #[.int .i64 k, .int .i64 n, .int .i64 t, .bool g] 36)).only hk1
  have hB1 := (Blk.new w 36 [.int .i64 k, .int .i64 n, .int .i64 t, .bool g]).kept hk1 (fun h => h)
  have b1 := hB1.cell 1 rfl
  have hs1 := hB1.lt
  have HK1 : Only w w1 := ((Kept.refl _ w).alloc _).then hk1
  have HA1 := Lib.hid hA1
  clear hA1
  go_wp2_with fail
  refine (tag_any _ _ hxr.1 hxr.2).mono ?_
  rintro e w1 ⟨rfl, rfl⟩
  go_wp2_with fail
  refine (take_ok' _ _ _ _ _ _ HA1.out _ (1 + n) (by omega) (by omega)).mono ?_
  rintro e w2 ⟨rfl, v2, d2, hA2, hk2, hd2⟩
  have HA2 := Lib.hid hA2
  clear hA2
  go_wp2_with fail
  refine (set_any' _ _ _ _ _ _ HA2.out _ W.length (by omega) (by simp; omega) X hxr).mono ?_
  rintro e w3 ⟨rfl, hA3, hk3⟩
  have HA3 := Lib.hid hA3
  clear hA3
  go_wp2_with fail
  refine (of_any _ _ _ (by omega) (by omega)).mono ?_
  rintro e w4 ⟨rfl, rfl⟩
  rw [hof]
  go_wp2_with fail
  go_ret2
  refine ⟨rfl, v2, d2, ?_, ?_, ?_⟩
  · have := HA3.out
    have e : (W ++ List.replicate (1 + n) 0).set W.length X = W ++ X :: List.replicate n 0 := by
      rw [List.set_append_right _ _ (Nat.le_refl _), Nat.sub_self, Nat.add_comm 1 n, List.replicate_succ, List.set_cons_zero]
    rw [e] at this; exact this
  · refine ((HK1.mono (S' := foot p d) (fun _ _ h => h.elim)).trans hk2 (fun _ _ h => h)).trans hk3 ?_
    intro x hx he
    rcases hd2 with rfl | ⟨b, rfl, hb⟩
    · exact .inr he
    · have := HK1.size; simp at he; omega
  · rcases hd2 with h | ⟨b, h, hb⟩
    · exact .inl h
    · exact .inr ⟨b, h, by have := HK1.size; omega⟩

theorem fresh_no (k t n : Int) (g : Bool) (hn : I64 n) (hbad : ¬ (0 ≤ k ∧ k ≤ 3 ∧ 0 ≤ n ∧ n < 1048576 ∧ 0 ≤ t ∧ t < 1048576) ∨ z - W.length < 1 + n) :
    Calls Try.prog 30 #[.pointer (some ⟨p, 0, none⟩), .agg #[.int .i64 k, .int .i64 n, .int .i64 t, .bool g]] w fun e w' =>
    e = .returned (.tuple #[.int .u64 0, .bool false]) ∧ Only w w' := by
  have hl := H.len
  have hm := H.max
  have hp := H.blk.lt
  have hH := Lib.hid H
  have hxr := mkHd_range ⟨k, n, t, g⟩
  by_cases hg : 0 ≤ k ∧ k ≤ 3 ∧ 0 ≤ n ∧ n < 1048576 ∧ 0 ≤ t ∧ t < 1048576
  · have hx := mkHd_tag (g := g) hg
    have hbig : z - W.length < 1 + n := by rcases hbad with h | h; exact absurd hg h; exact h
    obtain ⟨_, _, hn0, hn1, _⟩ := hg
    clear H hbad
    generalize hX : mkHd ⟨k, n, t, g⟩ = X at *
    have HX := Lib.hid hX
    clear hX
    have ht : ((tg X) == 6) = true := by simp [hx]
    have ht' : ((tg X) != 6) = false := by simp [hx]
    clear hx
    go_enter Try.func30, Try.ntmps30
    go_wp2_with fail
    refine (make_any _ _ _ _ _).mono ?_
    rw [HX.out]
    rintro e w1 ⟨rfl, hk1⟩
    have hA1 := (hH.out.alloc (.cells #[.int .i64 k, .int .i64 n, .int .i64 t, .bool g] 36)).only hk1
    have hB1 := (Blk.new w 36 [.int .i64 k, .int .i64 n, .int .i64 t, .bool g]).kept hk1 (fun h => h)
    have b1 := hB1.cell 1 rfl
    have HK1 : Only w w1 := ((Kept.refl _ w).alloc _).then hk1
    have HA1 := Lib.hid hA1
    clear hA1
    go_wp2_with fail
    refine (tag_any _ _ hxr.1 hxr.2).mono ?_
    rintro e w1 ⟨rfl, rfl⟩
    go_wp2_with fail
    refine (take_no _ _ _ _ _ _ HA1.out _ (.inr hbig) ⟨by omega, by omega⟩).mono ?_
    rintro e w2 ⟨rfl, hk2⟩
    go_wp2_with fail
    go_ret2
    exact ⟨rfl, HK1.then hk2⟩
  · rw [mkHd_bad hg] at hxr
    have hX := mkHd_bad (g := g) hg
    have HX := Lib.hid hX
    clear H hbad hX hg
    go_enter Try.func30, Try.ntmps30
    go_wp2_with fail
    refine (make_any _ _ _ _ _).mono ?_
    rw [HX.out]
    rintro e w1 ⟨rfl, hk1⟩
    have HK1 : Only w w1 := ((Kept.refl _ w).alloc _).then hk1
    go_wp2_with fail
    refine (tag_any _ _ (by decide) (by decide)).mono ?_
    rintro e w1 ⟨rfl, rfl⟩
    have ht : ((tg 4) == 6) = false := by decide
    have ht' : ((tg 4) != 6) = true := by decide
    go_wp2_with fail
    go_ret2
    exact ⟨rfl, HK1⟩

end

theorem new_any (w : World) (z : Int) (hz : 0 ≤ z ∧ z ≤ 1048576) : Calls Try.prog 22 #[.int .i64 z] w fun e w' =>
    e = .returned (.pointer (some ⟨w.heap.size, 0, none⟩)) ∧ Ar w' w.heap.size (.slice none 0 0) none [] z ∧ Only w w' ∧ w.heap.size < w'.heap.size := by
  obtain ⟨h0, h1⟩ := hz
  have hB := Blk.new w 77 [.slice none 0 0, .int .i64 z]
  go_enter Try.func22, Try.ntmps22
  go_wp2
  go_ret
  exact ⟨rfl, ⟨hB, ⟨Row.nil _ _ _, by intro x hx; cases hx⟩, by simpa using h0, h1⟩, (Kept.refl _ w).alloc _, by simp⟩
end Go.Proofs.Ytlkfbmebeodbmaa
