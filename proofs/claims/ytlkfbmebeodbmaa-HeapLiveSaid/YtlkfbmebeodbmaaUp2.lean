/- Contracts of package slide: the first way through the heap, walked. -/
import Derived.Test.YtlkfbmebeodbmaaUp
import Derived.RegionTactic
import Derived.BigRegion
set_option linter.unusedVariables false
namespace Go.Proofs.Ytlkfbmebeodbmaa
open Go.RowKit Go.Thr

/-- The header rows so far: of the first i objects the sizes. -/
def Heads (W : List Int) (M : List Nat) (sz : Nat → Nat) (i : Nat) (hcs : List Value) : Prop := ∀ j, j < i → hcs[4 * j + 1]? = some (.int .i64 (sz (M.getD j 0)))
/-- What is said of an object that stays. -/
def ObjOk (W : List Int) (M : List Nat) (sz nf : Nat → Nat) : Prop := ∀ b ∈ M, ∃ h, obj W (b : Int) = some h ∧ h.size = (sz b : Int) ∧ fieldsOf h = (nf b : Int)
theorem obj_tag {W : List Int} {i : Int} {h : Hd} (e : obj W i = some h) : tg (W.getD i.toNat 0) = 6 := by
  have := (obj_some e).2.2.1
  simp only [isHd, decide_eq_true_eq] at this
  exact this.1

set_option maxRecDepth 100000 in
set_option maxHeartbeats 2000000 in
theorem up_any (w : World) (p : Nat) (v : Value) (d : Option Nat) (vr : Value) (dr : Option Nat) (z : Int) (W R : List Int) (M : List Nat) (sz nf : Nat → Nat) (G : Geo W R M sz nf) (HO : ObjOk W M sz nf) (m : Fld → Int)
    (H : TSt w p v d vr dr z W.length R.length m) (HSt : Stnd W R M sz nf m (onUp W R M nf (nxt M W.length 0)) (toldUp W R M nf (nxt M W.length 0)))
    (s : Nat) (vl : Value) (dl : Option Nat) (vh : Value) (dh : Option Nat) (hcs : List Value) (HS : Blk w s 96 [.pointer (some ⟨p, 0, none⟩), vr, vl, vh]) (HL : Row w 3 1 vl dl M.length (nats M)) (HH : Row w 36 4 vh dh M.length hcs) :
    Calls Try.prog 56 #[.pointer (some ⟨s, 0, none⟩)] w fun e w' => e = .returned (.tuple #[]) ∧ ∃ m' hcs', TSt w' p v d vr dr z W.length R.length m' ∧ Stnd W R M sz nf m' (onUp W R M nf W.length) (toldUp W R M nf W.length) ∧ Row w' 36 4 vh dh M.length hcs' ∧ Heads W M sz M.length hcs' ∧ Kept (fun k => foot2 d dr k ∨ some k = dh) w w' := by
  have hmx := H.max
  have hsm := H.small
  have hH := Lib.hid H
  have hSt := Lib.hid HSt
  have hS := Lib.hid HS
  have hL := Lib.hid HL
  have hHH := Lib.hid HH
  have hG := Lib.hid G
  have hO := Lib.hid HO
  have hlen : M.length ≤ W.length := by
    have := nodup_bound W.length M (G.sorted.imp (fun h => Nat.ne_of_lt h)) (fun b hb => by have := G.inW b hb; omega)
    exact this
  obtain ⟨Al, cl, rfl⟩ := HL.shape
  obtain ⟨Ah, ch, rfl⟩ := HH.shape
  obtain ⟨Ax, cx, rfl⟩ : ∃ A c, vr = .slice A R.length c := by
    obtain ⟨_, ⟨R', h4, h5, _⟩, _⟩ := H
    rw [← h5]; exact h4.row.shape
  have hss : ¬ foot2 d dr s := by
    obtain ⟨⟨_, h1, _⟩, ⟨_, h4, _⟩, _⟩ := H
    rintro (hk | hk)
    · exact h1.ws.row.ne HS (by decide) s hk.symm rfl
    · exact h4.row.ne HS (by decide) s hk.symm rfl
  have hsh : some s ≠ dh := fun e => HH.ne HS (by decide) s e.symm rfl
  have s0 := HS.cell 0 rfl
  have s1 := HS.cell 1 rfl
  have s2 := HS.cell 2 rfl
  have s3 := HS.cell 3 rfl
  have hdl : ∀ g, dl = some g → ¬ foot2 d dr g ∧ some g ≠ dh := by
    obtain ⟨⟨_, h1, _⟩, ⟨_, h4, _⟩, _⟩ := H
    intro g hg
    refine ⟨?_, fun e => HL.ne_row HH (by decide) g hg e.symm⟩
    rintro (hk | hk)
    · exact h1.ws.row.ne_row HL (by decide) g hk.symm hg
    · exact h4.row.ne_row HL (by decide) g hk.symm hg
  have hdhf : ∀ g, dh = some g → ¬ foot2 d dr g := by
    obtain ⟨⟨_, h1, _⟩, ⟨_, h4, _⟩, _⟩ := H
    rintro g hg (hk | hk)
    · exact h1.ws.row.ne_row HH (by decide) g hk.symm hg
    · exact h4.row.ne_row HH (by decide) g hk.symm hg
  have hph : ∀ g, dh = some g → g ≠ p := by
    obtain ⟨⟨_, h1, _⟩, _⟩ := H
    exact fun g hg => HH.ne h1.blk (by decide) g hg
  have hfoot : ∀ k, foot2 d dr k → w.heap.size ≤ k → False := by
    obtain ⟨⟨_, h1, _⟩, ⟨_, h4, _⟩, _⟩ := H
    rintro k (hk | hk) hle
    · have := h1.ws.row.lt hk.symm; omega
    · have := h4.row.lt hk.symm; omega
  clear H HSt HS HL HH G HO
  go_enter Try.func56, Try.ntmps56
  go_wp2
  clear s0 s1 s2 s3
  go_loopw [2, 13] (fun tv iv wx => ∃ (i : Nat) (m' : Fld → Int) (hc : List Value), iv = .int .i64 i ∧ tv = .int .i64 (tot M sz i : Nat) ∧ i ≤ M.length ∧ TSt wx p v d (.slice Ax R.length cx) dr z W.length R.length m' ∧ Stnd W R M sz nf m' (onUp W R M nf (nxt M W.length i)) (toldUp W R M nf (nxt M W.length i)) ∧
      Row wx 36 4 (.slice Ah M.length ch) dh M.length hc ∧ Heads W M sz i hc ∧ Kept (fun k => foot2 d dr k ∨ some k = dh) w wx) (fun _ iv _ => M.length - (intOf iv).toNat)
  case atStart => exact ⟨0, m, hcs, rfl, by rw [tot_zero]; rfl, by omega, hH.out, hSt.out, hHH.out, fun j hj => by omega, Kept.refl _ _⟩
  case round =>
    obtain ⟨i, m', hc, rfl, rfl, hi, hT, hSt', hHr, hHd, hk⟩ := hrel
    have HT := Lib.hid hT
    have HSt := Lib.hid hSt'
    have HHr := Lib.hid hHr
    have HHd := Lib.hid hHd
    have HK := Lib.hid hk
    have HSl := Lib.hid (hS.out.kept hk (by rintro (h | h); exact hss h; exact hsh h))
    have HLl := Lib.hid (hL.out.kept hk (by rintro g hg (h | h); exact (hdl g hg).1 h; exact (hdl g hg).2 h))
    clear hT hSt' hHr hHd hk
    by_cases hlt : i < M.length
    · obtain ⟨gl, c1, hvl, hdl', hcl⟩ := HLl.out.head (by omega)
      simp only [Value.slice.injEq] at hvl
      obtain ⟨rfl, -, rfl⟩ := hvl
      obtain ⟨gh, c2, hvh, hdh', hch⟩ := HHr.out.head (by omega)
      simp only [Value.slice.injEq] at hvh
      obtain ⟨rfl, -, rfl⟩ := hvh
      have cl1 := (HLl.out.cellAt i (by omega)).trans (nats_get M i hlt)
      have haM := getD_mem hlt
      have hnx := nxt_lt (n := W.length) hlt
      have htl := tot_lt hG.out hlt
      have hts := tot_succ M sz i hlt
      have hnp := np_get hG.out.sorted sz hlt
      have hgap := nxt_gap (n := W.length) hG.out.sorted (fun b hb => by have := hG.out.inW b hb; omega) hlt
      have hmax := HLl.out.max
      have hGd : M.getD i 0 < nxt M W.length (i + 1) := by
        rcases Nat.lt_or_ge (i + 1) M.length with h' | h'
        · rw [nxt_lt h']; exact sorted_get hG.out.sorted (Nat.lt_succ_self i) h'
        · rw [nxt_ge h']; have := hG.out.inW _ haM; omega
      have hGe : M.getD i 0 + nf (M.getD i 0) < nxt M W.length (i + 1) := by
        have h2 := hG.out.nfle _ haM
        rcases Nat.lt_or_ge (i + 1) M.length with h' | h'
        · rw [nxt_lt h']
          have := hG.out.apart _ haM _ (getD_mem h') (sorted_get hG.out.sorted (Nat.lt_succ_self i) h'); omega
        · rw [nxt_ge h']; have := hG.out.inW _ haM; omega
      have HDi : Hid (∀ X, X.getD (4 * i + 1) undef = Value.int .i64 (sz (M.getD i 0)) → Heads W M sz i X → X.length = 4 * M.length → Heads W M sz (i + 1) X) := Lib.hid (by
        intro X h1 h2 h3 j hj
        rcases Nat.lt_or_ge j i with h | h
        · exact h2 j h
        · have : j = i := by omega
          subst this
          rw [List.getD_eq_getElem?_getD, List.getElem?_eq_getElem (by omega)] at h1
          rw [List.getElem?_eq_getElem (by omega)]
          simpa using h1)
      have HX := HSt.out
      rw [hnx] at HX
      generalize ha : M.getD i 0 = a at *
      obtain ⟨h, ho, hsz, hfl⟩ := hO.out a haM
      have hin := hG.out.inW a haM
      have hnf := hG.out.nfle a haM
      obtain ⟨fs, f1, f2, f3, f4, f5⟩ := HX.off haM (fun b hb => hG.out.headNone hb)
      have f6 : ∀ f ∈ fs, InR W.length R.length f := fun f hf => Geo.inR hG.out (by rw [(f2 f hf).2]; simp)
      have f7 := fs_bound f1 f6
      have hmid := hG.out.up_off haM f5
      have hnw : nwd M sz a = mkw 5 (tot M sz i) := by unfold nwd; rw [hnp]
      rw [hnw] at hmid
      have htg : tg (orig W R (.mem a)) ≠ 7 := by have := obj_tag ho; simp only [Int.toNat_natCast] at this; simp only [orig, this]; decide
      have HF := Lib.hid (And.intro f1 (And.intro f3 (And.intro f4 (And.intro f6 (And.intro f7 htg)))))
      have HM := Lib.hid hmid
      have HOb := Lib.hid ho
      have hpw : (off m' (.mem a) fs (orig W R (.mem a)) (mkw 5 (tot M sz i))) (.mem a) = W.getD a 0 := by simp [off, orig]
      have HPW := Lib.hid hpw
      have HA := Lib.hid (And.intro ha (And.intro hnx (And.intro hts (And.intro hgap (And.intro hnp hnw)))))
      obtain ⟨hk', hz', ht', hn'⟩ := h
      have hrng := obj_range ho
      simp only at hsz hrng
      have HSZ := Lib.hid hsz
      have HFL := Lib.hid hfl
      clear ha hnx hts hgap hnp hnw f1 f2 f3 f4 f5 f6 f7 hmid htg ho HX hpw hsz hfl
      generalize tot M sz i = ti at *
      have s0 := HSl.out.cell 0 rfl
      have s1 := HSl.out.cell 1 rfl
      have s3 := HSl.out.cell 3 rfl
      go_wp2_with fail
      go_region_held3 (fun w' => w'.cell? ⟨s, 0, none⟩ = some (.pointer (some ⟨p, 0, none⟩)) ∧ w'.cell? ⟨s, 1, none⟩ = some (.slice Ax R.length cx))
        (first | go_keep | exact ⟨hS2.out.cell 0 rfl, hS2.out.cell 1 rfl⟩)
        (first | (go_at_call 70; refine (loose_any _ _ _ _ _ _ _ _ _ _ HT.out.drew a (by omega) fs _ HF.out.2.2.1 HF.out.1 HF.out.2.1 HF.out.2.2.2.1 HF.out.2.2.2.2.1 HF.out.2.2.2.2.2 _ (by omega)).mono ?_; rintro e w2 ⟨rfl, hT2, hk2⟩; have hT2' := Lib.hid hT2; have hS2 := Lib.hid (HSl.out.drew.kept hk2 hss)))
      have t0 := hS2.out.cell 0 rfl
      have HH2 := Lib.hid (HHr.out.drew.kept hk2 (fun g hg h => hdhf g hg h))
      have HK2 := Lib.hid (Kept.trans HK.out.drew hk2 (fun _ _ h => .inl h))
      clear s0 s1 s3 cl1
      go_wp2_with (go_at_call 38; refine (tobject_any _ _ _ _ _ _ _ _ _ _ hT2'.out a W rfl HPW.out _ HOb.out).mono ?_; rintro e w3 ⟨rfl, hk3⟩)
      have hT4 := Lib.hid ((hT2'.out.only hk3).alloc (.cells #[.int .i64 hk', .int .i64 hz', .int .i64 ht', .bool hn'] 36))
      have hS4 := Lib.hid ((hS2.out.kept hk3 (fun h => h)).alloc (.cells #[.int .i64 hk', .int .i64 hz', .int .i64 ht', .bool hn'] 36))
      have hH4 := Lib.hid ((HH2.out.kept hk3 (fun _ _ h => h)).alloc (.cells #[.int .i64 hk', .int .i64 hz', .int .i64 ht', .bool hn'] 36))
      have hK4 := Lib.hid ((HK2.out.then hk3).alloc (.cells #[.int .i64 hk', .int .i64 hz', .int .i64 ht', .bool hn'] 36))
      have hB4 := Lib.hid (Blk.new w3 36 [.int .i64 hk', .int .i64 hz', .int .i64 ht', .bool hn'])
      have hgb : gh < w3.heap.size := (HH2.out.kept hk3 (fun _ _ h => h)).lt hdh'
      have hwb : w.heap.size ≤ w3.heap.size := by have h1 := HK2.out.size; have h2 := hk3.size; omega
      generalize hb5 : w3.heap.size = b5 at *
      generalize hw4 : w3.alloc (.cells #[.int .i64 hk', .int .i64 hz', .int .i64 ht', .bool hn'] 36) = w4 at *
      clear hb5 hw4 t0
      have s3 := hS4.out.cell 3 rfl
      have b0 := hB4.out.cell 0 rfl
      have b1 := hB4.out.cell 1 rfl
      have b2 := hB4.out.cell 2 rfl
      have b3 := hB4.out.cell 3 rfl
      have hhl := hH4.out.len
      have hq : ∀ q, q < 4 → ∃ x, w4.cell? ⟨gh, i * 4 + q, none⟩ = some x := fun q hq => by
        rw [hH4.out.cellAt (i * 4 + q) (by omega), List.getElem?_eq_getElem (by omega)]; exact ⟨_, rfl⟩
      obtain ⟨x0, q0⟩ := hq 0 (by decide)
      obtain ⟨x1, q1⟩ := hq 1 (by decide)
      obtain ⟨x2, q2⟩ := hq 2 (by decide)
      obtain ⟨x3, q3⟩ := hq 3 (by decide)
      have g0 := hH4.out.frozenAt (i * 4 + 0)
      have g1 := hH4.out.frozenAt (i * 4 + 1)
      have g2 := hH4.out.frozenAt (i * 4 + 2)
      have g3 := hH4.out.frozenAt (i * 4 + 3)
      rw [Nat.add_zero] at q0 g0
      clear hq
      go_region
      have KS := (Kept.setCell (S := fun k => k = gh) (Kept.setCell (S := fun k => k = gh) (Kept.setCell (S := fun k => k = gh) (Kept.setCell (S := fun k => k = gh) (Kept.refl _ w4) (p := ⟨gh, i * 4, none⟩) (.inl rfl) (.int .i64 hk')) (p := ⟨gh, i * 4 + 1, none⟩) (.inl rfl) (.int .i64 hz')) (p := ⟨gh, i * 4 + 2, none⟩) (.inl rfl) (.int .i64 ht')) (p := ⟨gh, i * 4 + 3, none⟩) (.inl rfl) (.bool hn')).drew
      have hT5 := Lib.hid (hT4.out.kept KS (hph gh hdh').symm (fun g hg e => hdhf gh hdh' (.inl (by rw [← e]; exact hg.symm))) (fun g hg e => hdhf gh hdh' (.inr (by rw [← e]; exact hg.symm))))
      have hS5 := Lib.hid (hS4.out.kept KS (fun e => hsh (by rw [e]; exact hdh'.symm)))
      have hB5 := Lib.hid (hB4.out.kept KS (fun e => by omega))
      have hH5 := Lib.hid ((((hH4.out.store (i * 4) (.int .i64 hk')).store (i * 4 + 1) (.int .i64 hz')).store (i * 4 + 2) (.int .i64 ht')).store (i * 4 + 3) (.bool hn')).drew
      have hK5 := Lib.hid (Kept.trans hK4.out KS (fun k _ e => .inr (by rw [e]; exact hdh'.symm)))
      have hlb := hB5.out.lt
      clear KS q0 q1 q2 q3 g0 g1 g2 g3 b0 b1 b2 b3 s3 hT4 hS4 hB4 hH4 hK4
      generalize ((((w4.setCell ⟨gh, i * 4, none⟩ (.int .i64 hk')).setCell ⟨gh, i * 4 + 1, none⟩ (.int .i64 hz')).setCell ⟨gh, i * 4 + 2, none⟩ (.int .i64 ht')).setCell ⟨gh, i * 4 + 3, none⟩ (.bool hn')).drew = w5 at *
      have b0 := hB5.out.cell 0 rfl
      have b1 := hB5.out.cell 1 rfl
      have b2 := hB5.out.cell 2 rfl
      have b3 := hB5.out.cell 3 rfl
      go_wp2_with (go_at_call 65; refine (fields_eq _ _ _ _ _).mono ?_; rw [HFL.out]; rintro e w' ⟨rfl, rfl⟩)
      have hT6 := Lib.hid (hT5.out.alloc (.cells #[.int .i64 hk', .int .i64 hz', .int .i64 ht', .bool hn'] 36))
      have hS6 := Lib.hid (hS5.out.alloc (.cells #[.int .i64 hk', .int .i64 hz', .int .i64 ht', .bool hn'] 36))
      have hB6 := Lib.hid (hB5.out.alloc (.cells #[.int .i64 hk', .int .i64 hz', .int .i64 ht', .bool hn'] 36))
      have hH6 := Lib.hid (hH5.out.alloc (.cells #[.int .i64 hk', .int .i64 hz', .int .i64 ht', .bool hn'] 36))
      have hK6 := Lib.hid (hK5.out.alloc (.cells #[.int .i64 hk', .int .i64 hz', .int .i64 ht', .bool hn'] 36))
      clear b0 b1 b2 b3 hT5 hS5 hB5 hH5 hK5
      generalize (w5.alloc (.cells #[.int .i64 hk', .int .i64 hz', .int .i64 ht', .bool hn'] 36)) = w6 at *
      go_loopw [47] (fun iv wx => ∃ (k : Nat) (m6 : Fld → Int), iv = .int .i64 k ∧ k ≤ nf a ∧ TSt wx p v d (.slice Ax R.length cx) dr z W.length R.length m6 ∧ Stnd W R M sz nf m6 (onMid W R M nf a (a + 1 + k)) (toldMid W R M nf a) ∧ Kept (foot2 d dr) w6 wx) (fun iv _ => nf a - (intOf iv).toNat)
      case atStart => exact ⟨0, _, rfl, by omega, hT6.out, HM.out, Kept.refl _ _⟩
      case round =>
        obtain ⟨k, m6, rfl, hk6, hT7, hSt7, hk7⟩ := hrel
        have HT7 := Lib.hid hT7
        have HSt7 := Lib.hid hSt7
        have HK7 := Lib.hid hk7
        have hS7 := Lib.hid (hS6.out.kept hk7 hss)
        have hB7 := Lib.hid (hB6.out.kept hk7 (fun e => hfoot b5 e (by omega)))
        have hw7 := hk7.size
        clear hT7 hSt7 hk7
        by_cases hlt7 : k < nf a
        · have hq : InR W.length R.length (.mem (a + 1 + k)) := by simp only [InR]; omega
          have hFV : Hid (fieldV (.mem (a + 1 + k)) = .agg #[.bool false, .int .i64 ((a : Int) + 1 + k)]) := Lib.hid (by
            show Value.agg #[.bool false, .int .i64 ((a + 1 + k : Nat) : Int)] = _
            rw [show ((a + 1 + k : Nat) : Int) = (a : Int) + 1 + k from by omega])
          have hisF : isFld M nf (a + 1 + k) = true := isFld_iff.2 ⟨a, haM, by omega, by omega⟩
          have hwr1 : IntKind.i64.wrap ((a : Int) + 1) = a + 1 := by rw [IntKind.wrap_i64]; omega
          have hwr2 : IntKind.i64.wrap ((a : Int) + 1 + k) = a + 1 + k := by rw [IntKind.wrap_i64]; omega
          have hnoth : ∀ b, b ∈ M → Fld.mem (a + 1 + k) ≠ .mem b := by
            intro b hb e
            have e' := Fld.mem.inj e
            have := hG.out.apart a haM b hb (by omega)
            omega
          have hnon : ¬ onMid W R M nf a (a + 1 + k) (.mem (a + 1 + k)) := by
            rintro ⟨j, _, h | h⟩ <;> simp only [pos] at h <;> omega
          have hnt : ¬ toldMid W R M nf a (.mem (a + 1 + k)) := by
            rintro ⟨j, _, h1, h2⟩; simp only [pos] at h1; omega
          have hmf := HSt7.out.free hnoth hnon (.inl hnt)
          have s0 := hS7.out.cell 0 rfl
          have s1 := hS7.out.cell 1 rfl
          cases htq : tgt W R M nf (.mem (a + 1 + k)) with
          | none =>
            have htg : tg (m6 (.mem (a + 1 + k))) ≠ 5 := by
              rw [hmf]; intro e
              simp only [tgt, hisF, true_and, orig] at htq e
              rw [if_pos e] at htq; cases htq
            have HST8 := Lib.hid (hG.out.up_skip HSt7.out htq)
            have HTG := Lib.hid htg
            clear htg hmf htq hnoth hnon hnt hisF
            go_wp2_with fail
            go_region_held3 (fun w' => w'.cell? ⟨s, 0, none⟩ = some (.pointer (some ⟨p, 0, none⟩)) ∧ w'.cell? ⟨s, 1, none⟩ = some (.slice Ax R.length cx))
              (first | go_keep | exact ⟨hS8.out.cell 0 rfl, hS8.out.cell 1 rfl⟩)
              (first | (go_at_call 55; rw [← hFV.out]; refine (thread_no _ _ _ _ _ _ _ _ _ _ HT7.out.drew _ hq HTG.out).mono ?_; rintro e w8 ⟨rfl, hk8⟩; have hT8 := Lib.hid (HT7.out.drew.only hk8); have hS8 := Lib.hid (hS7.out.drew.kept hk8 (fun h => h)); have hK8 := Lib.hid (HK7.out.drew.then hk8)))
            clear hwr1 hwr2
            go_wp2
            go_roundw
            case rel => exact ⟨k + 1, m6, by go_num, by omega, hT8.out, HST8.out, hK8.out⟩
            case measure => simp [intOf]; omega
          | some j =>
            have htt := hG.out.target htq
            have hjw := hG.out.inW j htt.1
            have htg : tg (m6 (.mem (a + 1 + k))) = 5 := by rw [hmf]; exact htt.2.1
            have hvv : vl (m6 (.mem (a + 1 + k))) = j := by rw [hmf]; exact htt.2.2
            have hnej : Fld.mem (a + 1 + k) ≠ .mem j := hnoth j htt.1
            have HST8 := Lib.hid (hG.out.up_push (by omega) (HSt7.out.push htt.1 hnoth htq hnon hnt) (by rw [htq]; simp))
            have HTG := Lib.hid (And.intro htg (And.intro hvv hnej))
            clear htg hvv hnej hmf htq hnoth hnon hnt hisF htt
            go_wp2_with fail
            go_region_held3 (fun w' => w'.cell? ⟨s, 0, none⟩ = some (.pointer (some ⟨p, 0, none⟩)) ∧ w'.cell? ⟨s, 1, none⟩ = some (.slice Ax R.length cx))
              (first | go_keep | exact ⟨hS8.out.cell 0 rfl, hS8.out.cell 1 rfl⟩)
              (first | (go_at_call 55; rw [← hFV.out]; refine (thread_yes _ _ _ _ _ _ _ _ _ _ HT7.out.drew _ hq HTG.out.1 j HTG.out.2.1 (by omega) HTG.out.2.2).mono ?_; rintro e w8 ⟨rfl, hT8', hk8⟩; have hT8 := Lib.hid hT8'; have hS8 := Lib.hid (hS7.out.drew.kept hk8 hss); have hK8 := Lib.hid (Kept.trans HK7.out.drew hk8 (fun _ _ h => h))))
            clear hwr1 hwr2
            go_wp2
            go_roundw
            case rel => exact ⟨k + 1, _, by go_num, by omega, hT8.out, HST8.out, hK8.out⟩
            case measure => simp [intOf]; omega
        · obtain rfl : k = nf a := by omega
          have b1 := hB7.out.cell 1 rfl
          have HSt9 := Lib.hid (hG.out.up_next haM hGd HA.out.2.2.2.1 HSt7.out hGe)
          have hH7 := Lib.hid (hH6.out.kept HK7.out (fun g hg h => hdhf g hg h))
          have hK9 := Lib.hid (Kept.trans hK6.out HK7.out (fun _ _ h => .inl h))
          go_wp2
          go_roundw
          case rel =>
            refine ⟨i + 1, m6, _, by go_num, ?_, by omega, HT7.out, HSt9.out, hH7.out, HDi.out _ ?_ ?_ ?_, hK9.out⟩
            · rw [HA.out.2.2.1]
              have := HSZ.out
              exact congrArg (Value.int .i64) (by omega)
            · rw [List.getD_eq_getElem?_getD, List.getElem?_set_ne (by omega), List.getElem?_set_ne (by omega), Nat.mul_comm i 4, List.getElem?_set_self (by simp; omega), ← HSZ.out]; rfl
            · intro j hj
              have := HHd.out j hj
              rw [List.getElem?_set_ne (by omega), List.getElem?_set_ne (by omega), List.getElem?_set_ne (by omega), List.getElem?_set_ne (by omega)]; exact this
            · simp; omega
          case measure => simp [intOf]; omega
    · obtain rfl : i = M.length := by omega
      go_wp2
      go_end0
      refine ⟨rfl, m', hc, HT.out, ?_, HHr.out, HHd.out, HK.out⟩
      have := HSt.out
      rw [nxt_ge (Nat.le_refl _)] at this
      exact this
end Go.Proofs.Ytlkfbmebeodbmaa
