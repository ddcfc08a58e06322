/- Contracts of package thread: all fields off a thread. -/
import Derived.Test.YtlkfbmebeodbmaaThread2
set_option linter.unusedVariables false
namespace Go.Proofs.Ytlkfbmebeodbmaa
open Go.RowKit Go.Thr

set_option maxRecDepth 100000 in
set_option maxHeartbeats 1000000 in
theorem loose_any (w : World) (p : Nat) (v : Value) (d : Option Nat) (vr : Value) (dr : Option Nat) (z : Int) (nW nR : Nat) (m : Fld → Int) (H : TSt w p v d vr dr z nW nR m) (a : Nat) (ha : a < nW) (fs : List Fld) (h : Int)
    (hs : seq m (m (.mem a)) fs h) (hnd : fs.Nodup) (hna : Fld.mem a ∉ fs) (hin : ∀ f ∈ fs, InR nW nR f) (hlen : fs.length ≤ nW + nR) (hh : tg h ≠ 7) (to : Int) (hto : 0 ≤ to ∧ to ≤ 1048576) :
    Calls Try.prog 70 #[.pointer (some ⟨p, 0, none⟩), vr, .int .i64 a, .int .i64 to] w fun e w' => e = .returned (.tuple #[.int .i64 fs.length, .bool true]) ∧ TSt w' p v d vr dr z nW nR (off m (.mem a) fs h (mkw 5 to)) ∧ Kept (foot2 d dr) w w' := by
  have hmx := H.max
  have hsm := H.small
  have hp := H.lt
  have hH := Lib.hid H
  obtain ⟨Ax, capr, hvr⟩ : ∃ A c, vr = .slice A nR c := by
    obtain ⟨_, ⟨R, h4, h5, _⟩, _⟩ := H
    rw [← h5]; exact h4.row.shape
  subst hvr
  have hfoot : ∀ k, foot2 d dr k → w.heap.size ≤ k → False := by
    obtain ⟨⟨W, h1, _⟩, ⟨R, h4, _⟩, _⟩ := H
    rintro k (hk | hk) hle
    · have := h1.ws.row.lt hk.symm; omega
    · have := h4.row.lt hk.symm; omega
  have Hs := Lib.hid (And.intro hs (And.intro hnd (And.intro hna hin)))
  have hP := mkw_range 5 to
  have hof : Hid (ofW 5 to = mkw 5 to) := Lib.hid (by unfold ofW; rw [if_pos (by omega)])
  have HH := Lib.hid hh
  clear H hs hnd hna hin hh
  generalize mkw 5 to = P at *
  obtain ⟨nf, hnf⟩ : ∃ n, n = fs.length := ⟨_, rfl⟩
  rw [← hnf] at hlen ⊢
  have HNF := Lib.hid hnf
  clear hnf
  go_enter Try.func70, Try.ntmps70
  go_wp2
  go_loopg [10] nf (fun k iv wx => ∃ (i : Nat) (m' : Fld → Int) (fs' : List Fld), iv = .int .i64 i ∧ fs'.length = k ∧ i + k = nf ∧ TSt wx p v d (.slice Ax nR capr) dr z nW nR m' ∧ seq m' (m' (.mem a)) fs' h ∧ fs'.Nodup ∧ Fld.mem a ∉ fs' ∧ (∀ f ∈ fs', InR nW nR f) ∧ off m' (.mem a) fs' h P = off m (.mem a) fs h P ∧ Kept (foot2 d dr) w wx)
  case atStart => exact ⟨0, m, fs, rfl, HNF.out.symm, by omega, hH.out, Hs.out.1, Hs.out.2.1, Hs.out.2.2.1, Hs.out.2.2.2, rfl, Kept.refl _ _⟩
  case round =>
    obtain ⟨i, m', fs', rfl, hfl, hik, hT, hs, hnd, hna, hin, hoff, hk⟩ := hrel
    have HT := Lib.hid hT
    have hra := hT.rng (f := .mem a) ha
    have HK := Lib.hid hk
    have HO := Lib.hid hoff
    have hwl := hk.size
    clear hT hk hoff
    cases fs' with
    | nil =>
      simp only [seq] at hs
      simp only [List.length_nil] at hfl
      subst hfl
      obtain rfl : i = nf := by omega
      have e7 : (tg (m' (.mem a)) == 7) = false := by rw [hs]; simp [HH.out]
      have e7' : (tg (m' (.mem a)) != 7) = true := by rw [hs]; simp [HH.out]
      have HSS := Lib.hid hs
      clear hs hnd hna hin hik
      generalize hx : m' (.mem a) = x at *
      have HX := Lib.hid hx
      clear hx
      go_wp2_with (first | (go_at_call 39; refine (tget_any _ _ _ _ _ _ _ _ _ _ HT.out _ a rfl ha).mono ?_; rw [HX.out]; rintro e w' ⟨rfl, rfl⟩) | (go_at_call 44; refine (tag_any _ _ hra.1 hra.2).mono ?_; rintro e w' ⟨rfl, rfl⟩))
      go_ret2
      refine ⟨rfl, ?_, HK.out⟩
      rw [← HO.out, off_nil (HX.out.trans HSS.out)]; exact HT.out
    | cons f fs' =>
      have hfin := hin f (by simp)
      have hid := HT.out.idx hfin
      have hrf := HT.out.rng hfin
      have hsl : m' (.mem a) = lk f := hs.1
      have e7 : (tg (lk f) == 7) = true := by simp [tg_lk]
      have e7' : (tg (lk f) != 7) = false := by simp [tg_lk]
      have HS := Lib.hid (And.intro hs (And.intro hnd (And.intro hna hin)))
      have HLK := Lib.hid hsl
      have hrl := lk_range f
      have HIN := Lib.hid hfin
      simp only [List.length_cons] at hfl
      have hd : decide ((nW : Int) + nR ≤ i) = false := by simp; omega
      have HFL := Lib.hid (And.intro hfl hik)
      have hgk : 0 < gk := by omega
      clear hs hnd hna hin hsl hfin
      generalize hy : m' f = y at *
      have HY := Lib.hid hy
      clear hy
      generalize hl : lk f = l at *
      have HL := Lib.hid hl
      clear hl hfl
      have hFV : Hid (fieldV f = .agg #[.bool f.isRoot, .int .i64 f.idx]) := Lib.hid rfl
      generalize f.isRoot = fr at *
      generalize (f.idx : Int) = fi at *
      go_wp2_with (first | (go_at_call 39; refine (tget_any _ _ _ _ _ _ _ _ _ _ HT.out _ a rfl ha).mono ?_; rw [HLK.out]; rintro e w' ⟨rfl, rfl⟩) | (go_at_call 44; refine (tag_any _ _ hrl.1 hrl.2).mono ?_; rintro e w' ⟨rfl, rfl⟩) | (go_at_call 82; rw [← HL.out]; refine (linked_any _ f hid).mono ?_; rw [HL.out, hFV.out]; rintro e w1 ⟨rfl, hk1⟩; have hT1 := Lib.hid ((HT.out.only hk1).alloc (.cells #[.bool fr, .int .i64 fi] 99)); have hB1 := Lib.hid (Blk.new w1 99 [.bool fr, .int .i64 fi]); have b0 := hB1.out.cell 0 rfl; have b1 := hB1.out.cell 1 rfl; have hw1 := hk1.size) | (go_at_call 67; rw [← hFV.out]; refine (fget_any _ _ _ _ _ _ _ _ _ _ hT1.out f HIN.out).mono ?_; rw [HY.out]; rintro e w2 ⟨rfl, hk2⟩; have hT2 := Lib.hid (hT1.out.only hk2); have hB2 := Lib.hid (hB1.out.kept hk2 (fun h => h)); have hK2 := Lib.hid (HK.out.then (hk1.then (Only.of_alloc hk2)))) | (go_at_call 26; refine (tused_any _ _ _ _ _ _ _ _ _ _ hT2.out).mono ?_; rintro e w' ⟨rfl, rfl⟩) | (go_at_call 31; refine (tset_any _ _ _ _ _ _ _ _ _ _ hT2.out _ a rfl ha _ hrf).mono ?_; rintro e w3 ⟨rfl, hT3, hk3⟩; have hT3' := Lib.hid hT3; have hB3 := Lib.hid (hB2.out.kept hk3 (fun e => hfoot w1.heap.size e (by omega))); have hK3 := Lib.hid (Kept.trans hK2.out hk3 (fun _ _ h => h))))
      have c0 := hB3.out.cell 0 rfl
      have c1 := hB3.out.cell 1 rfl
      clear b0 b1
      go_region_held3 (fun w' => w'.cell? ⟨w1.heap.size, 0, none⟩ = some (.bool fr) ∧ w'.cell? ⟨w1.heap.size, 1, none⟩ = some (.int .i64 fi))
        (first | go_keep | exact ⟨hB4.out.cell 0 rfl, hB4.out.cell 1 rfl⟩)
        (first | (go_at_call 46; refine (of_any _ _ _ (by omega) (by omega)).mono ?_; rw [hof.out]; rintro e w' ⟨rfl, rfl⟩) | (go_at_call 68; rw [← hFV.out]; refine (fset_any _ _ _ _ _ _ _ _ _ _ hT3'.out.drew f HIN.out _ hP).mono ?_; rintro e w4 ⟨rfl, hT4, hk4⟩; have hT4' := Lib.hid hT4; have hB4 := Lib.hid (hB3.out.drew.kept hk4 (fun e => hfoot w1.heap.size e (by omega))); have hK4 := Lib.hid (Kept.trans (hK3.out.drew) hk4 (fun _ _ h => h))))
      go_wp2
      go_roundg (gk - 1)
      case measure => omega
      case rel =>
        obtain ⟨hs, hnd, hna, hin⟩ := HS.out
        have hs' : seq m' (m' (.mem a)) (f :: fs') h := by rw [HLK.out, ← HL.out]; exact hs.imp_left (fun _ => rfl) |> fun h => h
        refine ⟨i + 1, pop m' (.mem a) f P, fs', by go_num, ?_, ?_, ?_, seq_pop hnd hna hs', (List.nodup_cons.1 hnd).2, fun e => hna (by simp [e]), fun g hg => hin g (by simp [hg]), ?_, hK4.out⟩
        · have := HFL.out.1; omega
        · have := HFL.out.2; omega
        · have := hT4'.out; unfold pop; rw [HY.out]; exact this
        · rw [off_pop hna]; exact HO.out
end Go.Proofs.Ytlkfbmebeodbmaa
