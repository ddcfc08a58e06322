/- Contracts of package thread: a field is put on a thread. -/
import Derived.Test.YtlkfbmebeodbmaaThread
set_option linter.unusedVariables false
namespace Go.Proofs.Ytlkfbmebeodbmaa
open Go.RowKit Go.Thr

theorem TSt.congr {w : World} {p : Nat} {v : Value} {d : Option Nat} {vr : Value} {dr : Option Nat} {z : Int} {nW nR : Nat} {m m' : Fld → Int} (h : TSt w p v d vr dr z nW nR m) (e : ∀ f, InR nW nR f → m f = m' f) : TSt w p v d vr dr z nW nR m' := by
  obtain ⟨⟨W, h1, h2, h3⟩, ⟨R, h4, h5, h6⟩, h7, h8⟩ := h
  exact ⟨⟨W, h1, h2, fun a ha => (h3 a ha).trans (e (.mem a) ha)⟩, ⟨R, h4, h5, fun i hi => (h6 i hi).trans (e (.root i) hi)⟩, h7, h8⟩

theorem tused_any (w : World) (p : Nat) (v : Value) (d : Option Nat) (vr : Value) (dr : Option Nat) (z : Int) (nW nR : Nat) (m : Fld → Int) (H : TSt w p v d vr dr z nW nR m) :
    Calls Try.prog 26 #[.pointer (some ⟨p, 0, none⟩)] w fun e w' => e = .returned (.int .i64 nW) ∧ w = w' := by
  obtain ⟨⟨W, h1, h2, h3⟩, _⟩ := H
  rw [← h2]
  exact used_any w p v d W z h1
theorem tget_any (w : World) (p : Nat) (v : Value) (d : Option Nat) (vr : Value) (dr : Option Nat) (z : Int) (nW nR : Nat) (m : Fld → Int) (H : TSt w p v d vr dr z nW nR m) (i : Int) (a : Nat) (hi : i = a) (ha : a < nW) :
    Calls Try.prog 39 #[.pointer (some ⟨p, 0, none⟩), .int .i64 i] w fun e w' => e = .returned (.tuple #[.int .u64 (m (.mem a)), .bool true]) ∧ w = w' := by
  have hm := H.max
  obtain ⟨⟨W, h1, h2, h3⟩, _⟩ := H
  subst hi
  refine (get_any w p v d W z h1 a ⟨by omega, by omega⟩).mono ?_
  rintro e w' ⟨rfl, rfl⟩
  refine ⟨?_, rfl⟩
  have e1 : getW W (a : Int) = m (.mem a) := by unfold getW; rw [if_pos (by omega), Int.toNat_natCast]; exact h3 a ha
  have e2 : decide (0 ≤ (a : Int) ∧ (a : Int) < (W.length : Int)) = true := by simp; omega
  rw [e1, e2]
theorem tset_any (w : World) (p : Nat) (v : Value) (d : Option Nat) (vr : Value) (dr : Option Nat) (z : Int) (nW nR : Nat) (m : Fld → Int) (H : TSt w p v d vr dr z nW nR m) (i : Int) (a : Nat) (hi : i = a) (ha : a < nW) (x : Int) (hx : 0 ≤ x ∧ x < 18446744073709551616) :
    Calls Try.prog 31 #[.pointer (some ⟨p, 0, none⟩), .int .i64 i, .int .u64 x] w fun e w' => e = .returned (.bool true) ∧ TSt w' p v d vr dr z nW nR (upd m (.mem a) x) ∧ Kept (foot2 d dr) w w' := by
  obtain ⟨⟨W, h1, h2, h3⟩, ⟨R, h4, h5, h6⟩, hne, hsm⟩ := H
  subst hi
  have hal : a < W.length := by omega
  refine (set_any w p v d W z h1 a hal x hx).mono ?_
  rintro e w' ⟨rfl, hA, hk⟩
  refine ⟨rfl, ⟨⟨W.set a x, hA, by simp [h2], fun b hb => ?_⟩, ⟨R, ?_, h5, fun i hi => ?_⟩, hne, hsm⟩, ?_⟩
  · by_cases e : b = a
    · subst e; rw [upd_same, List.getD_eq_getElem?_getD, List.getElem?_set_self hal]; rfl
    · rw [upd_other _ _ (by intro e'; exact e (Fld.mem.inj e')), List.getD_eq_getElem?_getD, List.getElem?_set_ne (Ne.symm e), ← List.getD_eq_getElem?_getD, h3 b hb]
  · exact h4.kept (S := fun k => some k = d) hk (fun g hg e => hne g e.symm hg)
  · rw [h6 i hi, upd_other]; intro e; cases e
  · exact hk.mono (fun x _ h => .inl h)

theorem thread_no (w : World) (p : Nat) (v : Value) (d : Option Nat) (vr : Value) (dr : Option Nat) (z : Int) (nW nR : Nat) (m : Fld → Int) (H : TSt w p v d vr dr z nW nR m) (f : Fld) (hf : InR nW nR f) (ht : tg (m f) ≠ 5) :
    Calls Try.prog 55 #[.pointer (some ⟨p, 0, none⟩), vr, fieldV f] w fun e w' => e = .returned (.bool false) ∧ Only w w' := by
  have hr := H.rng hf
  have hH := Lib.hid H
  have e5 : (tg (m f) == 5) = false := by simp [ht]
  have e5' : (tg (m f) != 5) = true := by simp [ht]
  clear H ht
  generalize hx : m f = x at *
  have HX := Lib.hid hx
  clear hx
  have hff := Lib.hid hf
  show Calls _ _ #[_, _, .agg #[.bool f.isRoot, .int .i64 f.idx]] _ _
  generalize hfr : f.isRoot = fr
  generalize hfi : (f.idx : Int) = fi
  have HFV : Hid (fieldV f = .agg #[.bool fr, .int .i64 fi]) := Lib.hid (by show Value.agg #[.bool f.isRoot, .int .i64 f.idx] = _; rw [hfr, hfi])
  clear hf hfr hfi
  go_enter Try.func55, Try.ntmps55
  go_wp2_with (first | (go_at_call 67; rw [← HFV.out]; refine (fget_any _ _ _ _ _ _ _ _ _ _ (hH.out.alloc _) f hff.out).mono ?_; rw [HX.out]; rintro e w1 ⟨rfl, hk1⟩) | (go_at_call 44; refine (tag_any _ _ hr.1 hr.2).mono ?_; rintro e w' ⟨rfl, rfl⟩))
  go_ret
  exact ⟨rfl, ((Kept.refl _ w).alloc _).then (by assumption)⟩

set_option maxHeartbeats 400000 in
theorem thread_yes (w : World) (p : Nat) (v : Value) (d : Option Nat) (vr : Value) (dr : Option Nat) (z : Int) (nW nR : Nat) (m : Fld → Int) (H : TSt w p v d vr dr z nW nR m) (f : Fld) (hf : InR nW nR f) (ht : tg (m f) = 5) (a : Nat) (hv : vl (m f) = a) (ha : a < nW) (hne : f ≠ .mem a) :
    Calls Try.prog 55 #[.pointer (some ⟨p, 0, none⟩), vr, fieldV f] w fun e w' => e = .returned (.bool true) ∧ TSt w' p v d vr dr z nW nR (push m f (.mem a)) ∧ Kept (foot2 d dr) w w' := by
  have hr := H.rng hf
  have hid := H.idx hf
  have hmx := H.max
  have hra := H.rng (f := .mem a) ha
  have hH := Lib.hid H
  have e5 : (tg (m f) == 5) = true := by simp [ht]
  have e5' : (tg (m f) != 5) = false := by simp [ht]
  clear H ht
  generalize hx : m f = x at *
  have HX := Lib.hid hx
  have HV := Lib.hid hv
  clear hx hv
  have hff := Lib.hid hf
  show Calls _ _ #[_, _, .agg #[.bool f.isRoot, .int .i64 f.idx]] _ _
  generalize hfr : f.isRoot = fr
  generalize hfi : (f.idx : Int) = fi at *
  have HFV : Hid (fieldV f = .agg #[.bool fr, .int .i64 fi]) := Lib.hid (by show Value.agg #[.bool f.isRoot, .int .i64 f.idx] = _; rw [hfr, hfi])
  have hd : fr = false → (fi == (a : Int)) = false := by
    intro h
    cases f with
    | root i => rw [← hfr] at h; simp [Fld.isRoot] at h
    | mem b =>
      simp only [Fld.idx] at hfi
      simp; intro e; apply hne; rw [← hfi] at e; congr 1; omega
  clear hf hfi
  have hmaxi : (a : Int) < nW := by omega
  have hfoot : ∀ k, foot2 d dr k → w.heap.size ≤ k → False := by
    obtain ⟨⟨W, h1, _⟩, ⟨R, h4, _⟩, _⟩ := hH.out
    rintro k (hk | hk) hle
    · have := h1.ws.row.lt hk.symm; omega
    · have := h4.row.lt hk.symm; omega
  cases fr with
  | true =>
    clear hd hfr
    go_enter Try.func55, Try.ntmps55
    go_wp2_with (first | (go_at_call 67; rw [← HFV.out]; refine (fget_any _ _ _ _ _ _ _ _ _ _ (hH.out.alloc _) f hff.out).mono ?_; rw [HX.out]; rintro e w1 ⟨rfl, hk1⟩; have hH1 := Lib.hid ((hH.out.alloc _).only hk1); have hK1 := Lib.hid (Only.of_alloc hk1); have hF1 := Lib.hid ((Blk.new w 99 [.bool true, .int .i64 fi]).kept hk1 (fun h => h)); have b0 := hF1.out.cell 0 rfl; have b1 := hF1.out.cell 1 rfl) | (go_at_call 44; refine (tag_any _ _ hr.1 hr.2).mono ?_; rintro e w' ⟨rfl, rfl⟩) | (go_at_call 32; refine (value_any _ _ hr.1 hr.2).mono ?_; rw [HV.out]; rintro e w' ⟨rfl, rfl⟩) | (go_at_call 26; refine (tused_any _ _ _ _ _ _ _ _ _ _ hH1.out).mono ?_; rintro e w' ⟨rfl, rfl⟩) | (go_at_call 39; refine (tget_any _ _ _ _ _ _ _ _ _ _ hH1.out _ a rfl ha).mono ?_; rintro e w' ⟨rfl, rfl⟩) | (go_at_call 68; rw [← HFV.out]; refine (fset_any _ _ _ _ _ _ _ _ _ _ hH1.out f hff.out _ hra).mono ?_; rintro e w2 ⟨rfl, hT2, hk2⟩; have hH2 := Lib.hid hT2; have hF2 := Lib.hid (hF1.out.kept hk2 (fun e => hfoot w.heap.size e (Nat.le_refl _))); have c0 := hF2.out.cell 0 rfl; have c1 := hF2.out.cell 1 rfl; have hK2 := Lib.hid (Kept.trans (hK1.out.mono (S' := foot2 d dr) (fun _ _ h => h.elim)) hk2 (fun _ _ h => h))) | (go_at_call 69; rw [← HFV.out]; refine (link_any _ f hid).mono ?_; rintro e w3 ⟨rfl, hk3⟩; have hH3 := Lib.hid (hH2.out.only hk3); have hK3 := Lib.hid (hK2.out.then hk3)) | (go_at_call 31; refine (tset_any _ _ _ _ _ _ _ _ _ _ hH3.out _ a rfl ha _ (lk_range f)).mono ?_; rintro e w4 ⟨rfl, hT4, hk4⟩))
    go_ret
    exact ⟨rfl, by assumption, Kept.trans hK3.out (by assumption) (fun _ _ h => h)⟩
  | false =>
    have hd2 := hd rfl
    clear hd hfr
    go_enter Try.func55, Try.ntmps55
    go_wp2_with (first | (go_at_call 67; rw [← HFV.out]; refine (fget_any _ _ _ _ _ _ _ _ _ _ (hH.out.alloc _) f hff.out).mono ?_; rw [HX.out]; rintro e w1 ⟨rfl, hk1⟩; have hH1 := Lib.hid ((hH.out.alloc _).only hk1); have hK1 := Lib.hid (Only.of_alloc hk1); have hF1 := Lib.hid ((Blk.new w 99 [.bool false, .int .i64 fi]).kept hk1 (fun h => h)); have b0 := hF1.out.cell 0 rfl; have b1 := hF1.out.cell 1 rfl) | (go_at_call 44; refine (tag_any _ _ hr.1 hr.2).mono ?_; rintro e w' ⟨rfl, rfl⟩) | (go_at_call 32; refine (value_any _ _ hr.1 hr.2).mono ?_; rw [HV.out]; rintro e w' ⟨rfl, rfl⟩) | (go_at_call 26; refine (tused_any _ _ _ _ _ _ _ _ _ _ hH1.out).mono ?_; rintro e w' ⟨rfl, rfl⟩) | (go_at_call 39; refine (tget_any _ _ _ _ _ _ _ _ _ _ hH1.out _ a rfl ha).mono ?_; rintro e w' ⟨rfl, rfl⟩) | (go_at_call 68; rw [← HFV.out]; refine (fset_any _ _ _ _ _ _ _ _ _ _ hH1.out f hff.out _ hra).mono ?_; rintro e w2 ⟨rfl, hT2, hk2⟩; have hH2 := Lib.hid hT2; have hF2 := Lib.hid (hF1.out.kept hk2 (fun e => hfoot w.heap.size e (Nat.le_refl _))); have c0 := hF2.out.cell 0 rfl; have c1 := hF2.out.cell 1 rfl; have hK2 := Lib.hid (Kept.trans (hK1.out.mono (S' := foot2 d dr) (fun _ _ h => h.elim)) hk2 (fun _ _ h => h))) | (go_at_call 69; rw [← HFV.out]; refine (link_any _ f hid).mono ?_; rintro e w3 ⟨rfl, hk3⟩; have hH3 := Lib.hid (hH2.out.only hk3); have hK3 := Lib.hid (hK2.out.then hk3)) | (go_at_call 31; refine (tset_any _ _ _ _ _ _ _ _ _ _ hH3.out _ a rfl ha _ (lk_range f)).mono ?_; rintro e w4 ⟨rfl, hT4, hk4⟩))
    go_ret
    exact ⟨rfl, by assumption, Kept.trans hK3.out (by assumption) (fun _ _ h => h)⟩
end Go.Proofs.Ytlkfbmebeodbmaa
