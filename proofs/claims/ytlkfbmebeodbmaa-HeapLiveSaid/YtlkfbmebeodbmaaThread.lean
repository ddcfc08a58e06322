/- Contracts of package thread: fields, links. -/
import Derived.Test.YtlkfbmebeodbmaaLive2
set_option linter.unusedVariables false
namespace Go.Proofs.Ytlkfbmebeodbmaa
open Go.RowKit Go.Thr

/-- An arena and roots, as places hold words. -/
structure TSt (w : World) (p : Nat) (v : Value) (d : Option Nat) (vr : Value) (dr : Option Nat) (z : Int) (nW nR : Nat) (m : Fld → Int) : Prop where
  ar : ∃ W, Ar w p v d W z ∧ W.length = nW ∧ ∀ a, a < nW → W.getD a 0 = m (.mem a)
  ws : ∃ R, Ws w vr dr R ∧ R.length = nR ∧ ∀ i, i < nR → R.getD i 0 = m (.root i)
  ne : ∀ g, d = some g → dr ≠ some g
  small : nR ≤ 1000000000

def InR (nW nR : Nat) : Fld → Prop
  | .root i => i < nR
  | .mem a => a < nW
abbrev fieldV (f : Fld) : Value := .agg #[.bool f.isRoot, .int .i64 f.idx]

section
variable {w w' : World} {p : Nat} {v : Value} {d : Option Nat} {vr : Value} {dr : Option Nat} {z : Int} {nW nR : Nat} {m : Fld → Int}
theorem TSt.kept {S : Nat → Prop} (h : TSt w p v d vr dr z nW nR m) (k : Kept S w w') (hp : ¬ S p) (hd : ∀ g, d = some g → ¬ S g) (hdr : ∀ g, dr = some g → ¬ S g) : TSt w' p v d vr dr z nW nR m := by
  obtain ⟨⟨W, h1, h2, h3⟩, ⟨R, h4, h5, h6⟩, h7, h8⟩ := h
  exact ⟨⟨W, h1.kept k hp hd, h2, h3⟩, ⟨R, h4.kept k hdr, h5, h6⟩, h7, h8⟩
theorem TSt.only (h : TSt w p v d vr dr z nW nR m) (k : Only w w') : TSt w' p v d vr dr z nW nR m := h.kept k (fun h => h) (fun _ _ h => h) (fun _ _ h => h)
theorem TSt.alloc (h : TSt w p v d vr dr z nW nR m) (o : Obj) : TSt (w.alloc o) p v d vr dr z nW nR m := h.only ((Kept.refl _ _).alloc o)
theorem TSt.drew (h : TSt w p v d vr dr z nW nR m) : TSt w.drew p v d vr dr z nW nR m := h.only ((Kept.refl _ _).drew)
theorem TSt.lt (h : TSt w p v d vr dr z nW nR m) : p < w.heap.size := by obtain ⟨⟨W, h1, _⟩, _⟩ := h; exact h1.blk.lt
theorem TSt.max (h : TSt w p v d vr dr z nW nR m) : (nW : Int) ≤ z ∧ z ≤ 1048576 := by obtain ⟨⟨W, h1, h2, _⟩, _⟩ := h; exact ⟨by have := h1.len; omega, h1.max⟩
theorem TSt.rng (h : TSt w p v d vr dr z nW nR m) {f : Fld} (hf : InR nW nR f) : 0 ≤ m f ∧ m f < 18446744073709551616 := by
  obtain ⟨⟨W, h1, h2, h3⟩, ⟨R, h4, h5, h6⟩, _⟩ := h
  cases f with
  | root i => rw [← h6 i hf]; exact h4.rng.get i
  | mem a => rw [← h3 a hf]; exact h1.ws.rng.get a
theorem TSt.idx (h : TSt w p v d vr dr z nW nR m) {f : Fld} (hf : InR nW nR f) : f.idx < 1000000000 := by
  have := h.max
  have := h.small
  cases f with
  | root i => simp only [InR] at hf; simp only [Fld.idx]; omega
  | mem a => simp only [InR] at hf; simp only [Fld.idx]; omega
/-- The blocks of words. -/
def foot2 (d dr : Option Nat) : Nat → Prop := fun k => some k = d ∨ some k = dr

end

theorem fget_any (w : World) (p : Nat) (v : Value) (d : Option Nat) (vr : Value) (dr : Option Nat) (z : Int) (nW nR : Nat) (m : Fld → Int) (H : TSt w p v d vr dr z nW nR m) (f : Fld) (hf : InR nW nR f) :
    Calls Try.prog 67 #[fieldV f, .pointer (some ⟨p, 0, none⟩), vr] w fun e w' => e = .returned (.tuple #[.int .u64 (m f), .bool true]) ∧ Only w w' := by
  have hx := H.idx hf
  obtain ⟨⟨W, h1, h2, h3⟩, ⟨R, h4, h5, h6⟩, _⟩ := H
  cases f with
  | root i =>
    simp only [InR] at hf
    obtain ⟨g, cap, hv, hd, hc⟩ := h4.row.head (by omega)
    subst hv
    have c1 := (h4.row.cellAt i (by omega)).trans (words_get R i (by omega))
    rw [h6 i hf] at c1
    have hg := h4.row.lt hd
    rw [h5]
    simp only [Fld.idx] at hx ⊢
    clear h1 h2 h3 h4 h5 h6 hd
    show Calls _ _ #[.agg #[.bool true, .int .i64 i], _, _] _ _
    go_enter Try.func67, Try.ntmps67
    go_wp2
    go_ret2
    exact ⟨rfl, (Kept.refl _ _).alloc _⟩
  | mem a =>
    simp only [InR] at hf
    simp only [Fld.idx] at hx ⊢
    have hA := Lib.hid h1
    have hgw : getW W (a : Int) = m (.mem a) := by
      unfold getW; rw [if_pos (by omega), Int.toNat_natCast]; exact h3 a hf
    have hin : decide (0 ≤ (a : Int) ∧ (a : Int) < (W.length : Int)) = true := by simp; omega
    clear h1 h2 h3 h4 h5 h6
    show Calls _ _ #[.agg #[.bool false, .int .i64 a], _, _] _ _
    go_enter Try.func67, Try.ntmps67
    go_wp2_with (go_at_call 39; refine (get_any _ _ _ _ _ _ (hA.out.alloc _) _ ⟨by omega, by omega⟩).mono ?_; rw [hgw, hin]; rintro e w2 ⟨rfl, rfl⟩)
    go_ret2
    exact ⟨rfl, (Kept.refl _ _).alloc _⟩

theorem fset_any (w : World) (p : Nat) (v : Value) (d : Option Nat) (vr : Value) (dr : Option Nat) (z : Int) (nW nR : Nat) (m : Fld → Int) (H : TSt w p v d vr dr z nW nR m) (f : Fld) (hf : InR nW nR f) (x : Int) (hx : 0 ≤ x ∧ x < 18446744073709551616) :
    Calls Try.prog 68 #[fieldV f, .pointer (some ⟨p, 0, none⟩), vr, .int .u64 x] w fun e w' => e = .returned (.tuple #[]) ∧ TSt w' p v d vr dr z nW nR (upd m f x) ∧ Kept (foot2 d dr) w w' := by
  have hH := Lib.hid H
  have hi := H.idx hf
  obtain ⟨⟨W, h1, h2, h3⟩, ⟨R, h4, h5, h6⟩, hne, hsm⟩ := H
  cases f with
  | root i =>
    simp only [InR] at hf
    simp only [Fld.idx] at hi
    obtain ⟨g, cap, hv, hd, hc⟩ := h4.row.head (by omega)
    subst hv
    have c1 := (h4.row.cellAt i (by omega)).trans (words_get R i (by omega))
    have f1 := h4.row.frozenAt i
    have hg := h4.row.lt hd
    have h4' := Lib.hid h4
    have h1' := Lib.hid h1
    rw [h5]
    have hkk : ∀ o : Obj, Kept (foot2 d dr) w ((w.setCell ⟨g, i, none⟩ (.int .u64 x)).alloc o) := fun o => (Kept.setCell (S := foot2 d dr) (Kept.refl _ w) (p := ⟨g, i, none⟩) (.inl (.inr hd.symm)) _).alloc o
    have hfin : ∀ o : Obj, TSt ((w.setCell ⟨g, i, none⟩ (.int .u64 x)).alloc o) p v d (.slice (some ⟨g, 0, none⟩) R.length cap) dr z nW nR (upd m (.root i) x) := by
      intro o
      refine TSt.alloc ⟨⟨W, ?_, h2, fun a ha => ?_⟩, ⟨R.set i x, ⟨?_, ?_⟩, by simp [h5], fun j hj => ?_⟩, hne, hsm⟩ o
      · exact h1.kept (Kept.setCell (S := fun k => k = g) (Kept.refl _ w) (p := ⟨g, i, none⟩) (.inl rfl) _) (fun e => h4.row.ne h1.blk (by decide) g hd e.symm) (fun g' hg' e => hne g' hg' (by rw [e]; exact hd))
      · rw [h3 a ha, upd_other]; intro e; cases e
      · rw [words_set, List.length_set]; exact h4.row.store i _
      · intro y hy
        rcases List.mem_or_eq_of_mem_set hy with h | h
        · exact h4.rng y h
        · rw [h]; exact hx
      · by_cases e : j = i
        · subst e; rw [upd_same, List.getD_eq_getElem?_getD, List.getElem?_set_self (by omega)]; rfl
        · rw [upd_other _ _ (by intro e'; exact e (Fld.root.inj e')), List.getD_eq_getElem?_getD, List.getElem?_set_ne (Ne.symm e), ← List.getD_eq_getElem?_getD, h6 j hj]
    rw [h5] at hfin
    clear h1 h2 h3 h4 h5 h6 hd
    show Calls _ _ #[.agg #[.bool true, .int .i64 i], _, _, _] _ _
    go_enter Try.func68, Try.ntmps68
    go_wp2
    go_end0
    exact ⟨rfl, hfin _, hkk _⟩
  | mem a =>
    simp only [InR] at hf
    simp only [Fld.idx] at hi
    have h1' := Lib.hid h1
    have hal : a < W.length := by omega
    have h2' := Lib.hid h2
    clear h1 h2
    show Calls _ _ #[.agg #[.bool false, .int .i64 a], _, _, _] _ _
    go_enter Try.func68, Try.ntmps68
    go_wp2_with (go_at_call 31; refine (set_any _ _ _ _ _ _ (h1'.out.alloc _) a hal x hx).mono ?_; rintro e w1 ⟨rfl, hA1, hk1⟩)
    go_end0
    refine ⟨rfl, ⟨⟨W.set a x, by assumption, by simp [h2'.out], fun b hb => ?_⟩, ⟨R, ?_, h5, fun i hi => ?_⟩, hne, hsm⟩, ?_⟩
    · by_cases e : b = a
      · subst e; rw [upd_same, List.getD_eq_getElem?_getD, List.getElem?_set_self hal]; rfl
      · rw [upd_other _ _ (by intro e'; exact e (Fld.mem.inj e')), List.getD_eq_getElem?_getD, List.getElem?_set_ne (Ne.symm e), ← List.getD_eq_getElem?_getD, h3 b hb]
    · exact (h4.only ((Kept.refl _ w).alloc _)).kept (S := fun k => some k = d) (by assumption) (fun g hg e => hne g e.symm hg)
    · rw [h6 i hi, upd_other]; intro e; cases e
    · exact Kept.trans (S' := fun k => some k = d) ((Kept.refl _ w).alloc _) (by assumption) (fun x _ hx => .inl hx)

theorem i64_or1 {x : Int} (h₀ : 0 ≤ x) (h₁ : x % 2 = 0) (h₂ : x < 9223372036854775808) : bits .or .i64 x 1 = x + 1 :=
  bits_join .i64 63 (by decide) wraps_i64 1 x 1 h₀ (by omega) (by omega) (by decide) (by decide) (by decide)

theorem link_any (w : World) (f : Fld) (hf : f.idx < 1000000000) : Calls Try.prog 69 #[fieldV f] w fun e w' => e = .returned (.int .u64 (lk f)) ∧ Only w w' := by
  cases f with
  | root i =>
    simp only [Fld.idx] at hf ⊢
    have e1 := i64_or1 (x := (i : Int) * 2) (by omega) (by omega) (by omega)
    have e2 : Hid (ofW 7 ((i : Int) * 2 + 1) = lk (.root i)) := Lib.hid (by unfold ofW; rw [if_pos (by omega)]; unfold lk; rw [Int.mul_comm])
    show Calls _ _ #[.agg #[.bool true, .int .i64 i]] _ _
    go_enter Try.func69, Try.ntmps69
    go_wp2_with (go_at_call 46; refine (of_any _ _ _ (by omega) (by omega)).mono ?_; rw [e2.out]; rintro e w' ⟨rfl, rfl⟩)
    go_ret
    exact ⟨rfl, (Kept.refl _ _).alloc _⟩
  | mem i =>
    simp only [Fld.idx] at hf ⊢
    have e2 : Hid (ofW 7 ((i : Int) * 2) = lk (.mem i)) := Lib.hid (by unfold ofW; rw [if_pos (by omega)]; unfold lk; rw [Int.mul_comm])
    show Calls _ _ #[.agg #[.bool false, .int .i64 i]] _ _
    go_enter Try.func69, Try.ntmps69
    go_wp2_with (go_at_call 46; refine (of_any _ _ _ (by omega) (by omega)).mono ?_; rw [e2.out]; rintro e w' ⟨rfl, rfl⟩)
    go_ret
    exact ⟨rfl, (Kept.refl _ _).alloc _⟩

theorem vl_lk (f : Fld) (hf : f.idx < 1000000000) : vl (lk f) = 2 * (f.idx : Int) + (if f.isRoot then 1 else 0) := by
  cases f with
  | root i =>
    simp only [Fld.idx] at hf ⊢
    show vl (mkw 7 (2 * (i : Int) + 1)) = _
    rw [vl_mkw (by decide) (by decide) (by omega) (by omega)]; simp [Fld.isRoot]
  | mem i =>
    simp only [Fld.idx] at hf ⊢
    show vl (mkw 7 (2 * (i : Int))) = _
    rw [vl_mkw (by decide) (by decide) (by omega) (by omega)]; simp [Fld.isRoot]
theorem lk_range (f : Fld) : 0 ≤ lk f ∧ lk f < 18446744073709551616 := by cases f <;> exact mkw_range _ _

theorem linked_any (w : World) (f : Fld) (hf : f.idx < 1000000000) : Calls Try.prog 82 #[.int .u64 (lk f)] w fun e w' => e = .returned (fieldV f) ∧ Only w w' := by
  have hv := vl_lk f hf
  have hr := lk_range f
  generalize lk f = x at *
  cases f with
  | root i =>
    simp only [Fld.idx, Fld.isRoot, if_true] at hf hv ⊢
    have HV := Lib.hid hv
    clear hv
    have a1 := i64_and1 (x := 2 * (i : Int) + 1) (by omega) (by omega)
    have a2 : (2 * (i : Int) + 1) % 2 = 1 := by omega
    have a3 : (2 * (i : Int) + 1) / 2 = i := by omega
    go_enter Try.func82, Try.ntmps82
    go_wp2_with (go_at_call 32; refine (value_any _ _ hr.1 hr.2).mono ?_; rw [HV.out]; rintro e w' ⟨rfl, rfl⟩)
    exact bodyPost_ret (v := .agg #[.bool true, .int .i64 i]) (by simp [results, Try.results82, go_sem]) rfl ⟨rfl, (Kept.refl _ _).alloc _⟩
  | mem i =>
    simp only [Fld.idx, Fld.isRoot] at hf hv ⊢
    have hv' : vl x = 2 * (i : Int) := by simpa using hv
    have HV := Lib.hid hv'
    clear hv hv'
    have a1 := i64_and1 (x := 2 * (i : Int)) (by omega) (by omega)
    have a2 : (2 * (i : Int)) % 2 = 0 := by omega
    have a3 : (2 * (i : Int)) / 2 = i := by omega
    go_enter Try.func82, Try.ntmps82
    go_wp2_with (go_at_call 32; refine (value_any _ _ hr.1 hr.2).mono ?_; rw [HV.out]; rintro e w' ⟨rfl, rfl⟩)
    exact bodyPost_ret (v := .agg #[.bool false, .int .i64 i]) (by simp [results, Try.results82, go_sem]) rfl ⟨rfl, (Kept.refl _ _).alloc _⟩
end Go.Proofs.Ytlkfbmebeodbmaa
