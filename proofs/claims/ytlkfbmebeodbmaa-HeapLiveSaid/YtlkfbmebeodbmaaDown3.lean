/- Contracts of package slide: the second way through the heap, walked. -/
import Derived.Test.YtlkfbmebeodbmaaDown2
set_option linter.unusedVariables false
namespace Go.Proofs.Ytlkfbmebeodbmaa
open Go.RowKit Go.Thr

/-- The words as they stand, against the words with nothing moved. -/
def Agree (nW nR p : Nat) (m mm : Fld → Int) : Prop := (∀ i, i < nR → m (.root i) = mm (.root i)) ∧ ∀ a, p ≤ a → a < nW → m (.mem a) = mm (.mem a)

theorem down_step {W R : List Int} {M : List Nat} {sz nf : Nat → Nat} (G : Geo W R M sz nf) {i : Nat} (hi : i < M.length) {m mm : Fld → Int}
    (hA : Agree W.length R.length (nxt M W.length i) m mm) (hD : Done W R M sz nf i m) {fs : List Fld} (f2 : ∀ f ∈ fs, onDown W R M nf (nxt M W.length i) f ∧ tgt W R M nf f = some (M.getD i 0))
    (hS : Stnd W R M sz nf (off mm (.mem (M.getD i 0)) fs (orig W R (.mem (M.getD i 0))) (nwd M sz (M.getD i 0))) (onDown W R M nf (nxt M W.length (i + 1))) (toldDown W R M nf (nxt M W.length (i + 1)))) :
    Agree W.length R.length (nxt M W.length (i + 1)) (mv (off m (.mem (M.getD i 0)) fs (orig W R (.mem (M.getD i 0))) (nwd M sz (M.getD i 0))) (M.getD i 0) (tot M sz i) (1 + sz (M.getD i 0)))
        (off mm (.mem (M.getD i 0)) fs (orig W R (.mem (M.getD i 0))) (nwd M sz (M.getD i 0))) ∧
      Done W R M sz nf (i + 1) (mv (off m (.mem (M.getD i 0)) fs (orig W R (.mem (M.getD i 0))) (nwd M sz (M.getD i 0))) (M.getD i 0) (tot M sz i) (1 + sz (M.getD i 0))) := by
  have haM := getD_mem hi
  have htl := tot_lt G hi
  have hin := G.inW _ haM
  have hnx := nxt_lt (n := W.length) hi
  have hap : M.getD i 0 + sz (M.getD i 0) < nxt M W.length (i + 1) := by
    rcases Nat.lt_or_ge (i + 1) M.length with h' | h'
    · rw [nxt_lt h']; exact G.apart _ haM _ (getD_mem h') (sorted_get G.sorted (Nat.lt_succ_self i) h')
    · rw [nxt_ge h']; exact hin
  rw [hnx] at hA f2
  generalize ha : M.getD i 0 = a at *
  have hfs : ∀ b, Fld.mem b ∈ fs → a < b := by
    intro b hb
    obtain ⟨⟨j, h1, h2, h3⟩, h4⟩ := f2 _ hb
    rw [h1] at h4
    have := Option.some.inj h4
    simp only [pos] at h2; omega
  have hoff : ∀ b, a ≤ b → b < W.length → off m (.mem a) fs (orig W R (.mem a)) (nwd M sz a) (.mem b) = off mm (.mem a) fs (orig W R (.mem a)) (nwd M sz a) (.mem b) := by
    intro b h1 h2
    simp only [off]
    split
    · rfl
    · split
      · rfl
      · exact hA.2 b h1 h2
  have hoffr : ∀ k, k < R.length → off m (.mem a) fs (orig W R (.mem a)) (nwd M sz a) (.root k) = off mm (.mem a) fs (orig W R (.mem a)) (nwd M sz a) (.root k) := by
    intro k hk
    simp only [off, reduceCtorEq, if_false]
    split
    · rfl
    · exact hA.1 k hk
  have hlow : ∀ b, b < a → off m (.mem a) fs (orig W R (.mem a)) (nwd M sz a) (.mem b) = m (.mem b) := by
    intro b hb
    simp only [off]
    rw [if_neg (by intro e; have := Fld.mem.inj e; omega), if_neg (fun h => by have := hfs b h; omega)]
  refine ⟨⟨fun k hk => hoffr k hk, fun b h1 h2 => ?_⟩, fun j hj t ht => ?_⟩
  · simp only [mv]; rw [if_neg (by omega)]; exact hoff b (by omega) h2
  · rcases Nat.lt_or_ge j i with h | h
    · have := tot_mono (M := M) (sz := sz) h (by omega)
      simp only [mv]; rw [if_neg (by omega), hlow _ (by omega)]
      exact hD j h t ht
    · have : j = i := by omega
      subst this
      rw [ha] at ht ⊢
      have e : mv (off m (.mem a) fs (orig W R (.mem a)) (nwd M sz a)) a (tot M sz j) (1 + sz a) (.mem (tot M sz j + t)) = off m (.mem a) fs (orig W R (.mem a)) (nwd M sz a) (.mem (a + t)) := by
        simp only [mv]; rw [if_pos (by omega)]; congr 2; omega
      rw [e, hoff _ (by omega) (by omega)]
      by_cases ht0 : t = 0
      · subst ht0
        simp only [fin, Nat.add_zero, G.headNone haM]
        simp [off]
      · have hnh : ∀ b, b ∈ M → Fld.mem (a + t) ≠ .mem b := by
          intro b hb e'
          have e'' := Fld.mem.inj e'
          have := G.apart a haM b hb (by omega)
          omega
        have hnon : ¬ onDown W R M nf (nxt M W.length (j + 1)) (.mem (a + t)) := by
          rintro ⟨q, _, h2, h3⟩
          simp only [pos] at h2; omega
        cases hT : tgt W R M nf (.mem (a + t)) with
        | none => rw [hS.free hnh hnon (.inr hT)]; simp only [fin, hT]
        | some q =>
          rw [hS.new hnh hnon ⟨q, hT, ?_⟩ hT]
          · simp only [fin, hT]
          · simp only [pos]; omega

theorem down_roots {W R : List Int} {M : List Nat} {sz nf : Nat → Nat} (G : Geo W R M sz nf) {m mm : Fld → Int} (hA : Agree W.length R.length W.length m mm)
    (hS : Stnd W R M sz nf mm (onDown W R M nf W.length) (toldDown W R M nf W.length)) : ∀ i, i < R.length → m (.root i) = fin W R M sz nf (.root i) := by
  intro i hi
  rw [hA.1 i hi]
  have hnh : ∀ b, b ∈ M → Fld.root i ≠ .mem b := by intro b _ e; cases e
  have hnon : ¬ onDown W R M nf W.length (.root i) := by
    rintro ⟨j, h1, h2, h3⟩; simp only [pos] at h2; omega
  cases hT : tgt W R M nf (.root i) with
  | none => rw [hS.free hnh hnon (.inr hT)]; simp only [fin, hT]
  | some q =>
    rw [hS.new hnh hnon ⟨q, hT, .inl (by simp only [pos]; omega)⟩ hT]
    simp only [fin, hT]

theorem tsize_any (w : World) (p : Nat) (v : Value) (d : Option Nat) (vr : Value) (dr : Option Nat) (z : Int) (nW nR : Nat) (m : Fld → Int) (H : TSt w p v d vr dr z nW nR m) :
    Calls Try.prog 25 #[.pointer (some ⟨p, 0, none⟩)] w fun e w' => e = .returned (.int .i64 z) ∧ w = w' := by
  obtain ⟨⟨W, h1, h2, h3⟩, _⟩ := H
  exact size_any w p v d W z h1

set_option maxRecDepth 100000 in
set_option maxHeartbeats 2000000 in
theorem down_any (w : World) (p : Nat) (v : Value) (d : Option Nat) (vr : Value) (dr : Option Nat) (z : Int) (W R : List Int) (M : List Nat) (sz nf : Nat → Nat) (G : Geo W R M sz nf) (HO : ObjOk W M sz nf) (m : Fld → Int)
    (H : TSt w p v d vr dr z W.length R.length m) (HSt : Stnd W R M sz nf m (onDown W R M nf (nxt M W.length 0)) (toldDown W R M nf (nxt M W.length 0)))
    (s : Nat) (vl : Value) (dl : Option Nat) (vh : Value) (dh : Option Nat) (hcs : List Value) (HS : Blk w s 96 [.pointer (some ⟨p, 0, none⟩), vr, vl, vh]) (HL : Row w 3 1 vl dl M.length (nats M)) (HH : Row w 36 4 vh dh M.length hcs) (HHd : Heads W M sz M.length hcs) :
    Calls Try.prog 57 #[.pointer (some ⟨s, 0, none⟩)] w fun e w' => (∃ q, e = .returned (.int .i64 q)) ∧ (∃ v', Ar w' p v' d (finW W R M sz nf) z) ∧ Ws w' vr dr (finR W R M sz nf) ∧ Kept (fun k => foot2 d dr k ∨ k = p) w w' := by
  have hmx := H.max
  have hsm := H.small
  have hH := Lib.hid H
  have hSt := Lib.hid HSt
  have hS := Lib.hid HS
  have hL := Lib.hid HL
  have hHH := Lib.hid HH
  have hHd := Lib.hid HHd
  have hG := Lib.hid G
  have hO := Lib.hid HO
  have hlen : M.length ≤ W.length := by
    have := nodup_bound W.length M (G.sorted.imp (fun h => Nat.ne_of_lt h)) (fun b hb => by have := G.inW b hb; omega)
    exact this
  obtain ⟨Al, cl, rfl⟩ := HL.shape
  obtain ⟨Ah, ch, rfl⟩ := HH.shape
  obtain ⟨Ax, cx, rfl⟩ : ∃ A c, vr = .slice A R.length c := by
    obtain ⟨_, ⟨R', h4, h5, _⟩, _⟩ := H
    rw [← h5]; exact h4.row.shape
  have hss : ¬ foot2 d dr s := by
    obtain ⟨⟨_, h1, _⟩, ⟨_, h4, _⟩, _⟩ := H
    rintro (hk | hk)
    · exact h1.ws.row.ne HS (by decide) s hk.symm rfl
    · exact h4.row.ne HS (by decide) s hk.symm rfl
  have hdl : ∀ g, dl = some g → ¬ foot2 d dr g := by
    obtain ⟨⟨_, h1, _⟩, ⟨_, h4, _⟩, _⟩ := H
    rintro g hg (hk | hk)
    · exact h1.ws.row.ne_row HL (by decide) g hk.symm hg
    · exact h4.row.ne_row HL (by decide) g hk.symm hg
  have hdhf : ∀ g, dh = some g → ¬ foot2 d dr g := by
    obtain ⟨⟨_, h1, _⟩, ⟨_, h4, _⟩, _⟩ := H
    rintro g hg (hk | hk)
    · exact h1.ws.row.ne_row HH (by decide) g hk.symm hg
    · exact h4.row.ne_row HH (by decide) g hk.symm hg
  have hsp : s ≠ p := by
    obtain ⟨⟨_, h1, _⟩, _⟩ := H
    rintro rfl
    have := (h1.blk.inj HS).1
    exact absurd this (by decide)
  have s0 := HS.cell 0 rfl
  have s1 := HS.cell 1 rfl
  have s2 := HS.cell 2 rfl
  have s3 := HS.cell 3 rfl
  clear H HSt HS HL HH G HO HHd
  go_enter Try.func57, Try.ntmps57
  go_wp2
  clear s0 s1 s2 s3
  go_loopw [3, 4, 13] (fun tv qv iv wx => ∃ (i q : Nat) (m' mm : Fld → Int), iv = .int .i64 i ∧ tv = .int .i64 (tot M sz i : Nat) ∧ qv = .int .i64 q ∧ i ≤ M.length ∧ q ≤ i ∧ TSt wx p v d (.slice Ax R.length cx) dr z W.length R.length m' ∧ Stnd W R M sz nf mm (onDown W R M nf (nxt M W.length i)) (toldDown W R M nf (nxt M W.length i)) ∧
      Agree W.length R.length (nxt M W.length i) m' mm ∧ Done W R M sz nf i m' ∧ Kept (foot2 d dr) w wx) (fun _ _ iv _ => M.length - (intOf iv).toNat)
  case atStart => exact ⟨0, 0, m, m, rfl, by rw [tot_zero]; rfl, rfl, by omega, by omega, hH.out, hSt.out, ⟨fun _ _ => rfl, fun _ _ _ => rfl⟩, fun j hj => by omega, Kept.refl _ _⟩
  case round =>
    obtain ⟨i, q, m', mm, rfl, rfl, rfl, hi, hq, hT, hSt', hAg, hDn, hk⟩ := hrel
    have HT := Lib.hid hT
    have HSt := Lib.hid hSt'
    have HAg := Lib.hid hAg
    have HDn := Lib.hid hDn
    have HK := Lib.hid hk
    have HSl := Lib.hid (hS.out.kept hk hss)
    have HLl := Lib.hid (hL.out.kept hk (fun g hg h => hdl g hg h))
    have HHl := Lib.hid (hHH.out.kept hk (fun g hg h => hdhf g hg h))
    clear hT hSt' hAg hDn hk
    by_cases hlt : i < M.length
    · obtain ⟨gl, c1, hvl, hdl', hcl⟩ := HLl.out.head (by omega)
      simp only [Value.slice.injEq] at hvl
      obtain ⟨rfl, -, rfl⟩ := hvl
      obtain ⟨gh, c2, hvh, hdh', hch⟩ := HHl.out.head (by omega)
      simp only [Value.slice.injEq] at hvh
      obtain ⟨rfl, -, rfl⟩ := hvh
      have cl1 := (HLl.out.cellAt i (by omega)).trans (nats_get M i hlt)
      have haM := getD_mem hlt
      have hnx := nxt_lt (n := W.length) hlt
      have htl := tot_lt hG.out hlt
      have hts := tot_succ M sz i hlt
      have hnp := np_get hG.out.sorted sz hlt
      have hgap := nxt_gap (n := W.length) hG.out.sorted (fun b hb => by have := hG.out.inW b hb; omega) hlt
      have hmax := HLl.out.max
      have hGd : M.getD i 0 < nxt M W.length (i + 1) := by
        rcases Nat.lt_or_ge (i + 1) M.length with h' | h'
        · rw [nxt_lt h']; exact sorted_get hG.out.sorted (Nat.lt_succ_self i) h'
        · rw [nxt_ge h']; have := hG.out.inW _ haM; omega
      have HX := HSt.out
      rw [hnx] at HX
      have HAx := HAg.out
      rw [hnx] at HAx
      obtain ⟨fs, f1, f2, f3, f4, f5⟩ := HX.off haM (fun b hb => hG.out.headNone hb)
      have hdo := hG.out.down_off haM hGd hgap f5
      have hds := Lib.hid (down_step hG.out hlt HAg.out HDn.out (fs := fs) (by rw [hnx]; exact f2) hdo)
      have hhd := hHd.out i hlt
      have hin := hG.out.inW _ haM
      obtain ⟨h, ho, hsz, hfl⟩ := hO.out _ haM
      have htg : tg (orig W R (.mem (M.getD i 0))) ≠ 7 := by have := obj_tag ho; simp only [Int.toNat_natCast] at this; simp only [orig, this]; decide
      have hnw : nwd M sz (M.getD i 0) = mkw 5 (tot M sz i) := by unfold nwd; rw [hnp]
      have f6 : ∀ f ∈ fs, InR W.length R.length f := fun f hf => Geo.inR hG.out (by rw [(f2 f hf).2]; simp)
      have f7 := fs_bound f1 f6
      have f8 : seq m' (m' (.mem (M.getD i 0))) fs (orig W R (.mem (M.getD i 0))) := by
        have e : m' (.mem (M.getD i 0)) = mm (.mem (M.getD i 0)) := HAx.2 _ (Nat.le_refl _) (by omega)
        rw [e]
        refine seq_congr fs _ (fun f hf => ?_) f4
        obtain ⟨⟨j, h1, h2, h3⟩, h4⟩ := f2 f hf
        rw [h1] at h4
        have := Option.some.inj h4
        cases f with
        | root k => simp only [pos] at h2; omega
        | mem b => simp only [pos] at h2; exact HAx.2 b (by omega) (f6 _ hf)
      have HF := Lib.hid (And.intro f1 (And.intro f3 (And.intro f8 (And.intro f6 (And.intro f7 htg)))))
      rw [hnw] at hds hdo
      have hdO := Lib.hid hdo
      have hw9 : IntKind.i64.wrap (1 + (sz (M.getD i 0) : Int)) = 1 + sz (M.getD i 0) := by rw [IntKind.wrap_i64]; omega
      have HTS := Lib.hid hts
      clear f1 f2 f3 f4 f5 f6 f7 f8 htg ho HX HAx hsz hfl hnw hnp hgap hts hnx hGd hdo
      have ca1 : ∀ wy, Row wy 36 4 (.slice (some ⟨gh, 0, none⟩) M.length ch) dh M.length hcs → wy.cell? ⟨gh, i * 4 + 1, none⟩ = some (.int .i64 (sz (M.getD i 0) : Nat)) := fun wy hy => by
        rw [Nat.mul_comm i 4]; exact (hy.cellAt (4 * i + 1) (by have := hy.len; omega)).trans hhd
      have HCA := Lib.hid ca1
      clear ca1 hhd
      generalize ha : M.getD i 0 = a at *
      have HAA := Lib.hid ha
      clear ha
      generalize htt : tot M sz i = ti at *
      have HTT := Lib.hid htt
      clear htt
      have s0 := HSl.out.cell 0 rfl
      have s1 := HSl.out.cell 1 rfl
      have s2 := HSl.out.cell 2 rfl
      have s3 := HSl.out.cell 3 rfl
      have e9' : (1 + (sz a : Int)) = ((1 + sz a : Nat) : Int) := by omega
      clear hw9
      have e9 := Lib.hid e9'
      clear e9'
      go_wp2_with fail
      go_region_held3 (fun w' => w'.cell? ⟨s, 0, none⟩ = some (.pointer (some ⟨p, 0, none⟩)) ∧ w'.cell? ⟨s, 1, none⟩ = some (.slice Ax R.length cx))
        (first | go_keep | exact ⟨hS2.out.cell 0 rfl, hS2.out.cell 1 rfl⟩)
        (first | (go_at_call 70; refine (loose_any _ _ _ _ _ _ _ _ _ _ HT.out.drew a (by omega) fs _ HF.out.2.2.1 HF.out.1 HF.out.2.1 HF.out.2.2.2.1 HF.out.2.2.2.2.1 HF.out.2.2.2.2.2 _ (by omega)).mono ?_; rintro e w2 ⟨rfl, hT2, hk2⟩; have hT2' := Lib.hid hT2; have hS2 := Lib.hid (HSl.out.drew.kept hk2 hss)))
      have HK2 := Lib.hid (Kept.trans HK.out.drew hk2 (fun _ _ h => h))
      have hH2 := HHl.out.drew.kept hk2 (fun g hg h => hdhf g hg h)
      have t1 := HCA.out _ hH2
      have t3 := hS2.out.cell 3 rfl
      clear hH2 s0 s1 s2 s3
      by_cases hat : a = ti
      · subst hat
        go_wp2_with fail
        go_roundw
        case rel =>
          have HD := hds.out
          rw [mv_self] at HD
          refine ⟨i + 1, q, _, _, by go_num, ?_, rfl, by omega, by omega, hT2'.out, hdO.out, HD.1, HD.2, HK2.out⟩
          rw [HTS.out]; go_num
        case measure => simp [intOf]; omega
      · have hat' : decide ((a : Int) = ti) = false := by simp; omega
        have hne : ((a : Int) == ti) = false := by simp; omega
        go_wp2_with (go_at_call 71; rw [e9.out]; refine (move_any _ _ _ _ _ _ _ _ _ _ hT2'.out s _ _ _ hS2.out a ti (1 + sz a) htl (by omega)).mono ?_; rintro e w3 ⟨rfl, hT3, hk3⟩; have hT3' := Lib.hid hT3; have HK3 := Lib.hid (Kept.trans HK2.out hk3 (fun _ _ h => h)))
        go_roundw
        case rel =>
          refine ⟨i + 1, q + 1, _, _, by go_num, ?_, by go_num, by omega, by omega, hT3'.out, hdO.out, hds.out.1, hds.out.2, HK3.out⟩
          rw [HTS.out]; go_num
        case measure => simp [intOf]; omega
    · obtain rfl : i = M.length := by omega
      have HR := Lib.hid (down_roots hG.out (by have := HAg.out; rw [nxt_ge (Nat.le_refl _)] at this; exact this) (by have := HSt.out; rw [nxt_ge (Nat.le_refl _)] at this; exact this))
      have s0 := HSl.out.cell 0 rfl
      go_wp2_with fail
      go_region_held3 (fun w' => w'.cell? ⟨s, 0, none⟩ = some (.pointer (some ⟨p, 0, none⟩)))
        (first | go_keep | exact hS9.out.cell 0 rfl)
        (first | (go_at_call 25; refine (tsize_any _ _ _ _ _ _ _ _ _ _ HT.out.drew).mono ?_; rintro e w' ⟨rfl, rfl⟩) | (go_at_call 28; refine (tcut_any _ _ _ _ _ _ _ _ _ _ _ _ hG.out _ HT.out.drew HDn.out HR.out).mono ?_; rintro e w9 ⟨rfl, hA9, hR9, hk9⟩; have hA9' := Lib.hid hA9; have hR9' := Lib.hid hR9; have hK9 := Lib.hid hk9; have hS9 := Lib.hid (HSl.out.drew.kept hk9 hsp)))
      go_wp2
      go_ret
      refine ⟨⟨_, rfl⟩, hA9'.out, hR9'.out, ?_⟩
      exact Kept.trans (S := fun k => foot2 d dr k ∨ k = p) (HK.out.drew.mono (fun _ _ h => .inl h)) hK9.out (fun _ _ h => .inr h)
end Go.Proofs.Ytlkfbmebeodbmaa
