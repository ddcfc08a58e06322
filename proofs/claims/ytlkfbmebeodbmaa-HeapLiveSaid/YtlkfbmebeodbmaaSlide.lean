/- Contracts of package slide: Slide itself. -/
import Derived.Test.YtlkfbmebeodbmaaGone
set_option linter.unusedVariables false
namespace Go.Proofs.Ytlkfbmebeodbmaa
open Go.RowKit Go.Thr

/-- The size of the object at a place, and how many of its words are fields. -/
def szO (W : List Int) (b : Nat) : Nat := match obj W (b : Int) with | some h => h.size.toNat | none => 0
def nfO (W : List Int) (b : Nat) : Nat := match obj W (b : Int) with | some h => (fieldsOf h).toNat | none => 0

theorem Segs.apart {W : List Int} : ∀ {L : List Nat} {i : Nat}, Segs W i L → ∀ b ∈ L, ∀ c ∈ L, b < c → b + szO W b < c
  | [], _, _, b, hb => by cases hb
  | a :: L, i, ⟨h1, h, ho, hs⟩, b, hb => fun c hc hbc => by
    rcases List.mem_cons.1 hb with e | hb'
    · rcases List.mem_cons.1 hc with e' | hc'
      · omega
      · have h2 := (hs.lt c hc').1
        have : szO W b = h.size.toNat := by unfold szO; rw [e, h1, ho]
        omega
    · rcases List.mem_cons.1 hc with e' | hc'
      · have := (hs.lt b hb').1; omega
      · exact hs.apart b hb' c hc' hbc

theorem szO_eq {W : List Int} {b : Nat} {h : Hd} (ho : obj W (b : Int) = some h) : h.size = (szO W b : Int) := by
  unfold szO; rw [ho]; have := obj_range ho; simp only; omega
theorem nfO_eq {W : List Int} {b : Nat} {h : Hd} (ho : obj W (b : Int) = some h) : fieldsOf h = (nfO W b : Int) := by
  unfold nfO; rw [ho]; have := obj_range ho
  have : 0 ≤ fieldsOf h := by unfold fieldsOf; split; · omega
                              split <;> omega
  simp only; omega

theorem Snd.ok {W R : List Int} {L M : List Nat} (S : Snd W R L) (hM : LiveL W R M) : ObjOk W M (szO W) (nfO W) := by
  intro b hb
  obtain ⟨_, _, h, ho, hs⟩ := S.segs.lt b (S.sub ((hM.2 b).1 hb))
  exact ⟨h, ho, szO_eq ho, nfO_eq ho⟩
theorem Snd.geo {W R : List Int} {L M : List Nat} (S : Snd W R L) (hM : LiveL W R M) : Geo W R M (szO W) (nfO W) := by
  have hsub : ∀ b ∈ M, b ∈ L := fun b hb => S.sub ((hM.2 b).1 hb)
  refine ⟨hM.1, fun b hb c hc h => S.segs.apart b (hsub b hb) c (hsub c hc) h, fun b hb => ?_, fun b hb => ?_, fun x hx ht => ?_, fun b hb k hk ht => ?_⟩
  · obtain ⟨_, _, h, ho, hs⟩ := S.segs.lt b (hsub b hb)
    have := szO_eq ho; omega
  · obtain ⟨_, _, h, ho, hs⟩ := S.segs.lt b (hsub b hb)
    have h1 := szO_eq ho; have h2 := nfO_eq ho
    have := (S.fields b (hsub b hb) h ho).1; omega
  · exact ⟨((S.roots x hx).2.2 ht).1, (hM.2 _).2 (.root hx ht)⟩
  · obtain ⟨_, _, h, ho, hs⟩ := S.segs.lt b (hsub b hb)
    have h2 := nfO_eq ho
    exact ⟨(((S.fields b (hsub b hb) h ho).2 k (by omega)).2.2 ht).1, (hM.2 _).2 (((hM.2 b).1 hb).step ho (by omega) ht)⟩

theorem sound_tgt {W R : List Int} {M : List Nat} {nf : Nat → Nat} {i : Nat} (hi : i < R.length) (h : tgt W R M nf (.root i) = none) : tg (R.getD i 0) ≠ 5 := by
  intro e; simp only [tgt] at h; rw [if_pos ⟨hi, e⟩] at h; cases h

theorem Stnd.root_skip {W R : List Int} {M : List Nat} {sz nf : Nat → Nat} {m : Fld → Int} {i : Nat} (H : Stnd W R M sz nf m (onRoots i) (fun _ => False)) (h : tgt W R M nf (.root i) = none) : Stnd W R M sz nf m (onRoots (i + 1)) (fun _ => False) :=
  H.congr (fun f hf => by
    constructor
    · rintro ⟨k, hk, rfl⟩; exact ⟨k, by omega, rfl⟩
    · rintro ⟨k, hk, rfl⟩
      refine ⟨k, ?_, rfl⟩
      rcases Nat.lt_or_ge k i with h' | h'
      · exact h'
      · have : k = i := by omega
        subst this; exact absurd h hf) (fun _ _ => Iff.rfl)
theorem Stnd.root_push {W R : List Int} {M : List Nat} {sz nf : Nat → Nat} {m : Fld → Int} {i j : Nat} (H : Stnd W R M sz nf m (onRoots i) (fun _ => False)) (h : tgt W R M nf (.root i) = some j) (hj : j ∈ M) : Stnd W R M sz nf (push m (.root i) (.mem j)) (onRoots (i + 1)) (fun _ => False) := by
  have hP := H.push (f := .root i) (a := j) hj (by intro b _ e; cases e) h (by rintro ⟨k, hk, e⟩; have := Fld.root.inj e; omega) (fun h => h)
  refine hP.congr (fun f hf => ?_) (fun _ _ => Iff.rfl)
  constructor
  · rintro (⟨k, hk, rfl⟩ | rfl)
    · exact ⟨k, by omega, rfl⟩
    · exact ⟨i, by omega, rfl⟩
  · rintro ⟨k, hk, rfl⟩
    rcases Nat.lt_or_ge k i with h' | h'
    · exact .inl ⟨k, h', rfl⟩
    · have : k = i := by omega
      subst this; exact .inr rfl
theorem Stnd.root_read {W R : List Int} {M : List Nat} {sz nf : Nat → Nat} {m : Fld → Int} {i : Nat} (H : Stnd W R M sz nf m (onRoots i) (fun _ => False)) : m (.root i) = R.getD i 0 :=
  H.free (by intro b _ e; cases e) (by rintro ⟨k, hk, e⟩; have := Fld.root.inj e; omega) (.inl (fun h => h))

theorem Ws.alloc {w : World} {v : Value} {d : Option Nat} {W : List Int} (h : Ws w v d W) (o : Obj) : Ws (w.alloc o) v d W := h.only ((Kept.refl _ _).alloc o)

theorem Row.made4 (w : World) (e : TypeId) (a b c f : Value) (n : Nat) (hn : n ≤ 9223372036854775807) : Row (w.alloc (.cells (madeCells #[a, b, c, f] (n * 4)) e)) e 4 (.slice (some ⟨w.heap.size, 0, none⟩) n n) (some w.heap.size) n (madeCells #[a, b, c, f] (n * 4)).toList := by
  have h := Row.made w (madeCells #[a, b, c, f] (n * 4)).toList n n e 4 (Nat.le_refl _) (by simp only [maxLen]; omega) (by simp [size_madeCells])
  have e : (madeCells #[a, b, c, f] (n * 4)).toList.take (n * 4) = (madeCells #[a, b, c, f] (n * 4)).toList := List.take_of_length_le (by simp [size_madeCells])
  rw [e] at h
  exact h

theorem info_header : (Try.prog.info? 36).map (fun i => (i.zero, i.size, i.bytes)) = some (some (.agg #[.int .i64 0, .int .i64 0, .int .i64 0, .bool false]), 4, 32) := by kernel_rfl
theorem run_make_headers (n : Nat) (hn : n ≤ 1048576) (W0 : World) :
    (Instr.makeSlice 94 (.int .i64 (n : Int)) (.int .i64 (n : Int))).run Try.prog W0 = .ok (.slice (some ⟨W0.heap.size, 0, none⟩) n n) (W0.alloc (.cells (madeCells #[.int .i64 0, .int .i64 0, .int .i64 0, .bool false] (n * 4)) 36)) := by
  obtain ⟨i, hi, hzz⟩ := Option.map_eq_some_iff.1 info_header
  simp only [Prod.mk.injEq] at hzz
  obtain ⟨hz, hs, hb⟩ := hzz
  have h := run_make (P := Try.prog) W0 94 36 i _ Try.underlying94 hi hz .i64 .i64 n n (by omega) (by omega) (by rw [hb]; omega) (by omega)
  have hc : (Value.agg #[.int .i64 0, .int .i64 0, .int .i64 0, .bool false]).cells = #[.int .i64 0, .int .i64 0, .int .i64 0, .bool false] := by kernel_rfl
  rw [hs, hc] at h
  simpa using h

set_option maxRecDepth 100000 in
set_option maxHeartbeats 2000000 in
theorem slide_any (w : World) (p : Nat) (v : Value) (d : Option Nat) (W : List Int) (z : Int) (H : Ar w p v d W z) (vr : Value) (dr : Option Nat) (R : List Int) (HR : Ws w vr dr R) (hne : ∀ g, d = some g → dr ≠ some g) (hRl : R.length ≤ 1000000000) (L : List Nat) (S : Snd W R L) :
    Calls Try.prog 42 #[.pointer (some ⟨p, 0, none⟩), vr] w fun e w' => ∃ M vg dg v' q, LiveL W R M ∧ e = .returned (.tuple #[.agg #[.int .i64 (finW W R M (szO W) (nfO W)).length, vg, .int .i64 q], .bool true]) ∧ Ar w' p v' d (finW W R M (szO W) (nfO W)) z ∧ Ws w' vr dr (finR W R M (szO W) (nfO W)) ∧
      Row w' 3 1 vg dg (goneOf W M L).length (zs (goneOf W M L)) ∧ (∀ g, dg = some g → w.heap.size ≤ g) ∧ Kept (fun k => foot2 d dr k ∨ k = p) w w' := by
  have hl := H.len
  have hm := H.max
  have hp := H.blk.lt
  have hH := Lib.hid H
  have hHR := Lib.hid HR
  have hS := Lib.hid S
  have hNE := Lib.hid hne
  obtain ⟨Ax, capr, hvr⟩ := HR.row.shape
  subst hvr
  clear H HR S hne
  go_enter Try.func42, Try.ntmps42
  go_wp2_with (first | (go_at_call 52; refine (sound_any _ _ _ _ _ _ (hH.out.alloc _) _ _ _ (hHR.out.alloc _) L hS.out).mono ?_; rintro e w1 ⟨rfl, hk1⟩; have hA1 := Lib.hid ((hH.out.alloc _).only hk1); have hR1 := Lib.hid ((hHR.out.alloc _).kept hk1 (fun _ _ h => h)); have hB1 := Lib.hid ((Blk.new w 79 [.int .i64 0, .slice none 0 0, .int .i64 0]).kept hk1 (fun h => h)); have hw1 := hk1.size; have hK1 := Lib.hid ((Only.of_alloc hk1))) | (go_at_call 53; refine (live_any _ _ _ _ _ _ hA1.out _ _ _ hR1.out L hS.out hRl).mono ?_; rintro e w2 ⟨v5, d5, M, rfl, hR5, hLM, hk2, hd5⟩; obtain ⟨A5, cap5, rfl⟩ := hR5.shape; have hA2 := Lib.hid (hA1.out.only hk2); have hW2 := Lib.hid (hR1.out.only hk2); have hB2 := Lib.hid (hB1.out.kept hk2 (fun h => h)); have hK2 := Lib.hid (hK1.out.then hk2); have hG := Lib.hid (hS.out.geo hLM); have hO := Lib.hid (hS.out.ok hLM); have hLML := Lib.hid hLM; have hw2 := hk2.size; have hMl : M.length ≤ W.length := nodup_bound W.length M (hG.out.sorted.imp (fun h => Nat.ne_of_lt h)) (fun b hb => by have := hG.out.inW b hb; omega); have hmk := run_make_headers M.length (by omega)))
  have hX : ∀ X : Obj, (w2.alloc X).heap.size = w2.heap.size + 1 := fun X => by simp
  have hS4 := Blk.new (w2.alloc (.cells (madeCells #[.int .i64 0, .int .i64 0, .int .i64 0, .bool false] (M.length * 4)) 36)) 96 [.pointer (some ⟨p, 0, none⟩), .slice Ax R.length capr, .slice A5 M.length cap5, .slice (some ⟨w2.heap.size, 0, none⟩) M.length M.length]
  rw [hX] at hS4
  have hS4 := Lib.hid hS4
  have hH4 := Lib.hid ((Row.made4 w2 36 (.int .i64 0) (.int .i64 0) (.int .i64 0) (.bool false) M.length (by omega)).alloc (.cells #[.pointer (some ⟨p, 0, none⟩), .slice Ax R.length capr, .slice A5 M.length cap5, .slice (some ⟨w2.heap.size, 0, none⟩) M.length M.length] 96))
  have hA4 := Lib.hid ((hA2.out.alloc (.cells (madeCells #[.int .i64 0, .int .i64 0, .int .i64 0, .bool false] (M.length * 4)) 36)).alloc (.cells #[.pointer (some ⟨p, 0, none⟩), .slice Ax R.length capr, .slice A5 M.length cap5, .slice (some ⟨w2.heap.size, 0, none⟩) M.length M.length] 96))
  have hW4 := Lib.hid ((hW2.out.alloc (.cells (madeCells #[.int .i64 0, .int .i64 0, .int .i64 0, .bool false] (M.length * 4)) 36)).alloc (.cells #[.pointer (some ⟨p, 0, none⟩), .slice Ax R.length capr, .slice A5 M.length cap5, .slice (some ⟨w2.heap.size, 0, none⟩) M.length M.length] 96))
  have hL4 := Lib.hid ((hR5.alloc (.cells (madeCells #[.int .i64 0, .int .i64 0, .int .i64 0, .bool false] (M.length * 4)) 36)).alloc (.cells #[.pointer (some ⟨p, 0, none⟩), .slice Ax R.length capr, .slice A5 M.length cap5, .slice (some ⟨w2.heap.size, 0, none⟩) M.length M.length] 96))
  have hB4 := Lib.hid ((hB2.out.alloc (.cells (madeCells #[.int .i64 0, .int .i64 0, .int .i64 0, .bool false] (M.length * 4)) 36)).alloc (.cells #[.pointer (some ⟨p, 0, none⟩), .slice Ax R.length capr, .slice A5 M.length cap5, .slice (some ⟨w2.heap.size, 0, none⟩) M.length M.length] 96))
  have hK4 := Lib.hid ((hK2.out.alloc (.cells (madeCells #[.int .i64 0, .int .i64 0, .int .i64 0, .bool false] (M.length * 4)) 36)).alloc (.cells #[.pointer (some ⟨p, 0, none⟩), .slice Ax R.length capr, .slice A5 M.length cap5, .slice (some ⟨w2.heap.size, 0, none⟩) M.length M.length] 96))
  have hw24 : ((w2.alloc (.cells (madeCells #[.int .i64 0, .int .i64 0, .int .i64 0, .bool false] (M.length * 4)) 36)).alloc (.cells #[.pointer (some ⟨p, 0, none⟩), .slice Ax R.length capr, .slice A5 M.length cap5, .slice (some ⟨w2.heap.size, 0, none⟩) M.length M.length] 96)).heap.size = w2.heap.size + 2 := by simp
  generalize (w2.alloc (.cells (madeCells #[.int .i64 0, .int .i64 0, .int .i64 0, .bool false] (M.length * 4)) 36)).alloc (.cells #[.pointer (some ⟨p, 0, none⟩), .slice Ax R.length capr, .slice A5 M.length cap5, .slice (some ⟨w2.heap.size, 0, none⟩) M.length M.length] 96) = w4 at *
  clear hX hmk hR5 hk1 hk2 hLM
  have hw1' : w.heap.size + 1 ≤ w1.heap.size := by simpa using hw1
  clear hw1
  generalize hh : w2.heap.size = h2 at *
  obtain ⟨s, hs⟩ : ∃ s, s = h2 + 1 := ⟨_, rfl⟩
  rw [← hs] at hS4 ⊢
  have HSE := Lib.hid hs
  clear hs
  refine (gone_any _ _ _ _ _ _ hA4.out L hS.out.segs M hG.out.sorted (fun b hb => hS.out.sub ((hLML.out.2 b).1 hb)) s _ _ _ _ hS4.out hL4.out).mono ?_
  rintro e w5 ⟨v9, dg, rfl, hRg, hk5, hdg⟩
  have hA5 := Lib.hid (hA4.out.only hk5)
  have hW5 := Lib.hid (hW4.out.only hk5)
  have hL5 := Lib.hid (hL4.out.kept hk5 (fun _ _ h => h))
  have hH5 := Lib.hid (hH4.out.kept hk5 (fun _ _ h => h))
  have hS5 := Lib.hid (hS4.out.kept hk5 (fun h => h))
  have hB5 := Lib.hid (hB4.out.kept hk5 (fun h => h))
  have hK5 := Lib.hid (hK4.out.then hk5)
  have hRg' := Lib.hid hRg
  have hDG := Lib.hid hdg
  have hw5 := hk5.size
  obtain ⟨Ag, cg, rfl⟩ := hRg.shape
  clear hA1 hR1 hA2 hW2 hB1 hB2 hK1 hK2 hA4 hW4 hS4 hB4 hL4 hH4 hK4 hRg hdg hk5
  have hT5 := Lib.hid (show TSt w5 p v d (.slice Ax R.length capr) dr z W.length R.length (orig W R) from ⟨⟨W, hA5.out, rfl, fun _ _ => rfl⟩, ⟨R, hW5.out, rfl, fun _ _ => rfl⟩, hNE.out, hRl⟩)
  go_wp2
  go_loopw [35] (fun iv wx => ∃ (i : Nat) (m' : Fld → Int), iv = .int .i64 i ∧ i ≤ R.length ∧ TSt wx p v d (.slice Ax R.length capr) dr z W.length R.length m' ∧ Stnd W R M (szO W) (nfO W) m' (onRoots i) (fun _ => False) ∧ Kept (foot2 d dr) w5 wx) (fun iv _ => R.length - (intOf iv).toNat)
  case atStart => exact ⟨0, _, rfl, by omega, hT5.out, Stands.start.congr (fun f _ => ⟨fun h => h.elim, fun ⟨k, hk, _⟩ => by omega⟩) (fun _ _ => Iff.rfl), Kept.refl _ _⟩
  case round =>
    obtain ⟨i, m', rfl, hi, hT, hSt, hk⟩ := hrel
    have HT := Lib.hid hT
    have HSt := Lib.hid hSt
    have HK := Lib.hid hk
    clear hT hSt hk
    by_cases hlt : i < R.length
    · have hq : InR W.length R.length (.root i) := hlt
      have hrd := Stnd.root_read HSt.out
      cases htq : tgt W R M (nfO W) (.root i) with
      | none =>
        have hno := sound_tgt hlt htq
        rw [← hrd] at hno
        have hNO := Lib.hid hno
        have hSN := Lib.hid (Stnd.root_skip HSt.out htq)
        clear hno htq hrd
        go_wp2_with (go_at_call 55; refine (thread_no _ _ _ _ _ _ _ _ _ _ HT.out (.root i) hq hNO.out).mono ?_; rintro e w8 ⟨rfl, hk8⟩; have hT8 := Lib.hid (HT.out.only hk8); have hK8 := Lib.hid (HK.out.then hk8))
        go_roundw
        case rel => exact ⟨i + 1, m', by go_num, by omega, hT8.out, hSN.out, hK8.out⟩
        case measure => simp [intOf]; omega
      | some j =>
        have htt := hG.out.target htq
        have hjw := hG.out.inW j htt.1
        have htg : tg (m' (.root i)) = 5 := by rw [hrd]; exact htt.2.1
        have hvv : vl (m' (.root i)) = j := by rw [hrd]; exact htt.2.2
        have hTG := Lib.hid (And.intro htg hvv)
        have hSN := Lib.hid (Stnd.root_push HSt.out htq htt.1)
        clear htg hvv htt htq hrd
        go_wp2_with (go_at_call 55; refine (thread_yes _ _ _ _ _ _ _ _ _ _ HT.out (.root i) hq hTG.out.1 j hTG.out.2 (by omega) (by intro e; cases e)).mono ?_; rintro e w8 ⟨rfl, hT8', hk8⟩; have hT8 := Lib.hid hT8'; have hK8 := Lib.hid (Kept.trans HK.out hk8 (fun _ _ h => h)))
        go_roundw
        case rel => exact ⟨i + 1, _, by go_num, by omega, hT8.out, hSN.out, hK8.out⟩
        case measure => simp [intOf]; omega
    · obtain rfl : i = R.length := by omega
      have hgap := nxt_le (n := W.length) hG.out.sorted (fun b hb => by have := hG.out.inW b hb; omega)
      have HUp := Lib.hid (hG.out.roots_done HSt.out hgap)
      have hfr : ∀ k, k = s ∨ some k = d5 ∨ k = h2 ∨ k = w.heap.size ∨ some k = dg → ¬ foot2 d dr k := by
        intro k hk hf
        obtain ⟨⟨X, q1, _⟩, ⟨Y, q2, _⟩, _⟩ := hT5.out
        rcases hf with hf | hf
        · rcases hk with rfl | hk | rfl | rfl | hk
          · exact q1.ws.row.ne hS5.out (by decide) _ hf.symm rfl
          · exact q1.ws.row.ne_row hL5.out (by decide) k hf.symm hk.symm
          · exact q1.ws.row.ne_row hH5.out (by decide) _ hf.symm rfl
          · exact q1.ws.row.ne hB5.out (by decide) _ hf.symm rfl
          · exact q1.ws.row.ne_row hRg'.out (by decide) k hf.symm hk.symm
        · rcases hk with rfl | hk | rfl | rfl | hk
          · exact q2.row.ne hS5.out (by decide) _ hf.symm rfl
          · exact q2.row.ne_row hL5.out (by decide) k hf.symm hk.symm
          · exact q2.row.ne_row hH5.out (by decide) _ hf.symm rfl
          · exact q2.row.ne hB5.out (by decide) _ hf.symm rfl
          · exact q2.row.ne_row hRg'.out (by decide) k hf.symm hk.symm
      have hFR := Lib.hid hfr
      clear hfr
      have hS6 := Lib.hid (hS5.out.kept HK.out (hFR.out s (.inl rfl)))
      have hL6 := Lib.hid (hL5.out.kept HK.out (fun g hg => hFR.out g (.inr (.inl hg.symm))))
      have hH6 := Lib.hid (hH5.out.kept HK.out (fun g hg => hFR.out g (.inr (.inr (.inl (Option.some.inj hg).symm)))))
      have hB6 := Lib.hid (hB5.out.kept HK.out (hFR.out _ (.inr (.inr (.inr (.inl rfl))))))
      have hR6 := Lib.hid (hRg'.out.kept HK.out (fun g hg => hFR.out g (.inr (.inr (.inr (.inr hg.symm))))))
      have hne2 : ∀ k, some k = d5 ∨ k = s ∨ k = w.heap.size ∨ some k = dg → k ≠ h2 := by
        have hs := HSE.out
        rintro k (hk | rfl | rfl | hk) e
        · exact hL5.out.ne_row hH5.out (by decide) k hk.symm (by rw [e])
        · omega
        · omega
        · have := hDG.out k hk.symm; omega
      have hNE2 := Lib.hid hne2
      clear hne2
      have hup := up_any _ _ _ _ _ _ _ _ _ _ _ _ hG.out hO.out _ HT.out HUp.out s _ d5 _ (some h2) _ hS6.out hL6.out hH6.out
      go_wp2_with (go_at_call 56; refine hup.mono ?_; rintro e w7 ⟨rfl, m7, hcs7, hT7, hSt7, hH7, hHd7, hk7⟩; have hT7' := Lib.hid hT7; have hSt7' := Lib.hid hSt7; have hH7' := Lib.hid hH7; have hHd7' := Lib.hid hHd7; have hk7' := Lib.hid hk7; clear hT7 hSt7 hH7 hHd7 hk7)
      have hS7 := Lib.hid (hS6.out.kept hk7'.out (by rintro (h | h); exact hFR.out s (.inl rfl) h; exact hNE2.out s (.inr (.inl rfl)) (Option.some.inj h)))
      have hL7 := Lib.hid (hL6.out.kept hk7'.out (by rintro g hg (h | h); exact hFR.out g (.inr (.inl hg.symm)) h; exact hNE2.out g (.inl hg.symm) (Option.some.inj h)))
      have hB7 := Lib.hid (hB6.out.kept hk7'.out (by rintro (h | h); exact hFR.out _ (.inr (.inr (.inr (.inl rfl)))) h; exact hNE2.out _ (.inr (.inr (.inl rfl))) (Option.some.inj h)))
      have hR7 := Lib.hid (hR6.out.kept hk7'.out (by rintro g hg (h | h); exact hFR.out g (.inr (.inr (.inr (.inr hg.symm)))) h; exact hNE2.out g (.inr (.inr (.inr hg.symm))) (Option.some.inj h)))
      have HDn := Lib.hid (hG.out.turn hG.out.inW hgap hSt7'.out)
      clear hup
      have hdn := down_any _ _ _ _ _ _ _ _ _ _ _ _ hG.out hO.out _ hT7'.out HDn.out s _ d5 _ (some h2) _ hS7.out hL7.out hH7'.out hHd7'.out
      have hpa : ∀ g, dg = some g → g ≠ p := by
        obtain ⟨⟨X, q1, _⟩, _⟩ := hT7'.out
        exact fun g hg => hR7.out.ne q1.blk (by decide) g hg
      have hR7' := Lib.hid (And.intro hR7.out hpa)
      clear hpa
      have hK7 := Lib.hid (Kept.trans (S := fun k => foot2 d dr k ∨ k = p) (Kept.trans (S := fun k => foot2 d dr k ∨ k = p) (hK5.out.mono (fun _ _ h => h.elim)) HK.out (fun _ _ h => .inl h)) hk7'.out (fun k hk h => h.imp id (fun e => by have := Option.some.inj e; omega)))
      go_wp2_with (first | (go_at_call 57; refine hdn.mono ?_; rintro e w8 ⟨⟨q, rfl⟩, ⟨v8, hA8⟩, hW8, hk8⟩; have hA8' := Lib.hid hA8; have hW8' := Lib.hid hW8; have hK8 := Lib.hid (Kept.trans hK7.out hk8 (fun _ _ h => h)); have hR8 := Lib.hid (hR7'.out.1.kept hk8 (by rintro g hg (h | h); exact hFR.out g (.inr (.inr (.inr (.inr hg.symm)))) h; exact hR7'.out.2 g hg h)); have hB8 := Lib.hid (hB7.out.kept hk8 (by rintro (h | h); exact hFR.out _ (.inr (.inr (.inr (.inl rfl)))) h; omega)); have b0 := hB8.out.cell 0 rfl; have b1 := hB8.out.cell 1 rfl; have b2 := hB8.out.cell 2 rfl; have g0 := hB8.out.frozen 0; have g1 := hB8.out.frozen 1; have g2 := hB8.out.frozen 2; have hb8 := hB8.out.lt; clear hA8 hW8 hk8) | (go_at_call 26; refine (used_any _ _ _ _ _ _ hA8'.out).mono ?_; rintro e w' ⟨rfl, rfl⟩))
      clear b0 b1 b2 g0 g1 g2
      have hF := ((hB8.out.set 0 (.int .i64 (finW W R M (szO W) (nfO W)).length)).set 1 (.slice Ag (goneOf W M L).length cg)).set 2 (.int .i64 q)
      have hKF : Kept (fun k => k = w.heap.size) w8 (((w8.setCell ⟨w.heap.size, 0, none⟩ (.int .i64 (finW W R M (szO W) (nfO W)).length)).setCell ⟨w.heap.size, 1, none⟩ (.slice Ag (goneOf W M L).length cg)).setCell ⟨w.heap.size, 2, none⟩ (.int .i64 q)) :=
        Kept.setCell (S := fun k => k = w.heap.size) (Kept.setCell (S := fun k => k = w.heap.size) (Kept.setCell (S := fun k => k = w.heap.size) (Kept.refl _ w8) (p := ⟨w.heap.size, 0, none⟩) (.inl rfl) _) (p := ⟨w.heap.size, 1, none⟩) (.inl rfl) _) (p := ⟨w.heap.size, 2, none⟩) (.inl rfl) _
      exact bodyPost_ret (v := .tuple #[.agg #[.int .i64 (finW W R M (szO W) (nfO W)).length, .slice Ag (goneOf W M L).length cg, .int .i64 q], .bool true]) (by simp [results, Try.results42, go_sem, hF.cell 0 rfl, hF.cell 1 rfl, hF.cell 2 rfl]) rfl
        ⟨M, _, dg, v8, q, hLML.out, rfl, hA8'.out.kept hKF (by omega) (fun g hg h => hFR.out g (.inr (.inr (.inr (.inl h)))) (.inl hg.symm)), hW8'.out.kept hKF (fun g hg h => hFR.out g (.inr (.inr (.inr (.inl h)))) (.inr hg.symm)), hR8.out.kept hKF (fun g hg h => by have := hDG.out g hg; omega), fun g hg => by have := hDG.out g hg; omega, Kept.trans hK8.out hKF (fun k hk h => by omega)⟩
end Go.Proofs.Ytlkfbmebeodbmaa
