/- The statement HeapGives: the walk. -/
import Derived.Test.YtlkfbmebeodbmaaGives0
set_option linter.unusedVariables false
namespace Go.Proofs.Ytlkfbmebeodbmaa
open Go.RowKit Go.Thr

/-- The state between two rounds: everything of the heap is new. -/
structure GSt (w wx : World) (h p : Nat) (sv : Value) (z mst : Int) (vr : Value) (l : List (Nat × Bool)) : Prop where
  ex : ∃ v d dr, HSt wx h p sv v d z mst vr dr l ∧ (∀ g, d = some g → w.heap.size ≤ g) ∧ (∀ g, dr = some g → w.heap.size ≤ g)
  all : ∀ e ∈ l, e.2 = true
  only : Only w wx
  hh : w.heap.size ≤ h
  hp : w.heap.size ≤ p

theorem row_ptrs {w : World} {v : Value} {d : Option Nat} {A : List Nat} (h : Row w 32 1 v d (ptrs A).length (words (ptrs A))) : Row w 32 1 v d A.length (words (ptrs A)) := by
  have e : (ptrs A).length = A.length := by simp [ptrs]
  rw [e] at h; exact h
theorem foot_new {B p k : Nat} {d dr : Option Nat} (hd : (∀ g, d = some g → B ≤ g) ∧ (∀ g, dr = some g → B ≤ g)) (hp : B ≤ p) (hk : k < B) (e : foot2 d dr k ∨ k = p) : False := by
  rcases e with (e | e) | e
  · have := hd.1 k e.symm; omega
  · have := hd.2 k e.symm; omega
  · omega

set_option maxRecDepth 100000 in
set_option maxHeartbeats 4000000 in
theorem gives_any (w : World) (a0 : Int) (h0 : 0 ≤ a0 ∧ a0 < 65536) (vs : Value) (ns : Nat) (hvs : ∃ A c, vs = .slice A ns c) (hcs : ∀ wx, Only w wx → ∀ A c, vs = .slice A ns c → ∀ i, i < ns → ∃ x y, A = some x ∧ wx.cell? (x.add i) = some (.int .u8 y) ∧ 0 ≤ y ∧ y < 256) :
    Calls Try.prog 3 #[.int .u16 a0, vs] w fun e w' => e = .returned (.bool true) ∧ Only w w' := by
  obtain ⟨As, cs, rfl⟩ := hvs
  have hCS := Lib.hid hcs
  have ha0 := h0.1
  have ha1 := h0.2
  clear hcs h0
  have hr1 : a0.tmod 400 = a0 % 400 := Int.tmod_eq_emod_of_nonneg ha0
  by_cases hbig : 60 < ns
  · have hd : decide ((60 : Int) < ns) = true := by simp; omega
    go_enter Try.func3, Try.ntmps3
    go_wp2_with (go_at_call 6; refine (awake_any _).mono ?_; rintro e w1 ⟨rfl, hk1⟩)
    go_ret
    exact ⟨rfl, hk1⟩
  · have hd : decide ((60 : Int) < ns) = false := by simp; omega
    have hn0 : 32 ≤ 32 + a0 % 400 ∧ 32 + a0 % 400 ≤ 431 := by omega
    go_enter Try.func3, Try.ntmps3
    go_wp2_with (first
      | (go_at_call 6; refine (awake_any _).mono ?_; rintro e w1 ⟨rfl, hk1⟩; have HK1 := Lib.hid hk1; clear hk1)
      | (go_at_call 7; refine (snew_any _ 0 (by omega)).mono ?_; rintro e w2 ⟨rfl, hB2, hk2⟩; have HK2 := Lib.hid (HK1.out.then hk2); have hs2 := hk2.size; have hs1 := HK1.out.size; clear hk2 hB2; generalize w1.heap.size = st at *)
      | (go_at_call 8; generalize 32 + a0 % 400 = n at *; refine (hnew_any _ n (by omega) _ ⟨_, rfl⟩).mono ?_; rintro e w3 ⟨p, rfl, hH3, hk3, hp3⟩; have HG3 := Lib.hid (show GSt w w3 w2.heap.size p (.pointer (some ⟨st, 0, none⟩)) (roomZ n 0) n (.slice none 0 0) [] from ⟨⟨_, _, _, HSt.start hH3, (fun g hg => by (cases hg)), (fun g hg => by (cases hg))⟩, (fun e he => by (cases he)), HK2.out.then hk3, by omega, by omega⟩); generalize w2.heap.size = h at *; clear hk3 hH3 hp3 hs2 hs1 HK1 HK2))
    generalize roomZ n 0 = z0 at *
    go_loopw [8, 9, 10] (fun rv uv iv wx => ∃ (i : Nat) (l : List (Nat × Bool)) (z : Int) (Ar : Option Addr) (cr : Nat), rv = .slice Ar (posR l 0).length cr ∧ iv = .int .i64 i ∧ uv = .int .i64 (tupW l).length ∧ i ≤ ns ∧ GSt w wx h p (.pointer (some ⟨st, 0, none⟩)) z n (.slice Ar (posR l 0).length cr) l) (fun _ _ iv _ => ns - (intOf iv).toNat)
    case atStart => exact ⟨0, [], z0, none, 0, rfl, rfl, rfl, by omega, HG3.out⟩
    case round =>
      clear HG3
      obtain ⟨i, l, z, Ar, cr, rfl, rfl, rfl, hi, hG⟩ := hrel
      obtain ⟨⟨v, d, dr, hH, hdn, hdrn⟩, hall, honly, hh, hp⟩ := hG
      have HH := Lib.hid hH
      have HALL := Lib.hid hall
      have HK := Lib.hid honly
      have HD := Lib.hid (And.intro hdn hdrn)
      have hlen := hH.len
      have hrl := hH.rlen
      simp only [ptrs, List.length_map] at hrl
      obtain ⟨u, hu⟩ : ∃ u, (tupW l).length = u := ⟨_, rfl⟩
      rw [hu] at hlen ⊢
      have HU := Lib.hid hu
      clear hH hall honly hdn hdrn hu
      by_cases hlt : i < ns
      · obtain ⟨x, y, rfl, hcell, hy0, hy1⟩ := hCS.out _ HK.out _ _ rfl i hlt
        obtain ⟨k, hk⟩ : ∃ k : Nat, y % 40 = k := ⟨(y % 40).toNat, by omega⟩
        have hk40 : k < 40 := by omega
        have hr2 : y.tmod 40 = k := by rw [Int.tmod_eq_emod_of_nonneg hy0]; exact hk
        by_cases hok : (u : Int) + (1 + k) ≤ n
        · have HOK := Lib.hid (decide_eq_true hok)
          have HLN : Hid (((tupW (l ++ [(k, true)])).length : Int) = u + 1 + k) := Lib.hid (by rw [tup_len, HU.out]; simp)
          have hd1 : decide ((u : Int) + 1 + k ≤ n) = true := by simp; omega
          have hmk := fun W0 => run_make_row' (P := Try.prog) 29 32 (.int .u64 0) 8 under_words info_word rfl .i64 .i64 k (by omega) (by omega) W0
          go_wp2_with (first
            | (go_at_call 9; refine (hneed_kept _ h p _ v d z n _ dr l HH.out HALL.out (1 + k) (by omega) (by omega)).mono ?_; rw [HU.out, HOK.out]; rintro e w3 ⟨z', v', rfl, hH3, hk3, hz3⟩; have HH3 := Lib.hid hH3; have HK3 := Lib.hid (Kept.trans HK.out hk3 (fun k hk e => (foot_new HD.out hp hk e).elim)); have hz3' := hz3 hok; clear hH3 hk3 hz3)
            | (go_at_call 10; refine (hmake_tup _ h p _ v' d z' n _ dr l (HH3.out.alloc _) k (by omega) (by rw [HU.out]; exact hz3') (1 + k) rfl true _ _ (ws_zeros w3 k (by omega)) (by intro g hg e; have := HH3.out.hp.ar.ws.row.lt e; have := Option.some.inj hg; omega)).mono ?_; rw [HU.out]; rintro e w5 ⟨rfl, v5, d5, hH5, hW5, hne5, hk5, hd5⟩; have HH5 := Lib.hid hH5; have hR5 := Lib.hid (row_ptrs hW5.row); have HNE5 := Lib.hid hne5; have HD5 := Lib.hid hd5; have HK5 := Lib.hid (Kept.trans (HK3.out.alloc (.cells (madeCells #[.int .u64 0] k) 32)) hk5 (fun k hk e => (foot_new (d := d) (dr := none) ⟨HD.out.1, fun g hg => by (cases hg)⟩ hp hk (by rcases e with e | e; exact .inr e; exact .inl (.inl e))).elim)); have hw5 := HK3.out.size; clear hH5 hW5 hne5 hk5 hd5)
            | (at_builtin; go_loud (refine wpList_push1 rfl _ _ _ 32 (.int .u64 0) 8 rfl under_words info_word rfl (by decide) _ dr (posR l 0).length (words (ptrs (posR l 0))) (.int .u64 (mkw 5 u)) rfl _ (by simp) rfl rfl (by exact hR5.out) (by omega) ?_; intro v6 d6 w6 hR6 hk6 hd6; have HH6 := Lib.hid (push_root HH5.out HNE5.out HH.out.small (by omega) hR5.out (by rw [HU.out]; exact hR6) hk6 hd6); have HK6 := Lib.hid (Kept.trans HK5.out hk6 (fun j hj e => by have := HD.out.2 j e.symm; omega)); have HD6 := Lib.hid hd6; obtain ⟨A6, c6, rfl⟩ := hR6.shape; clear hR6 hk6 hd6))
            | (go_at_call 11; go_loud (refine (hused_any HH6.out.hp).mono ?_; rw [HLN.out]; rintro e w' ⟨rfl, rfl⟩)))
          go_roundw
          case rel =>
            refine ⟨i + 1, l ++ [(k, true)], z', A6, c6, by rw [posR_snoc]; simp, by go_num, by rw [HLN.out], by omega, ⟨⟨v5, d5, d6, ?_, ?_, ?_⟩, ?_, HK6.out, hh, hp⟩⟩
            · have e : (posR (l ++ [(k, true)]) 0).length = (posR l 0).length + 1 := by rw [posR_snoc]; simp
              rw [e]; exact HH6.out
            · intro g hg
              rcases HD5.out with e | ⟨b, e, hb⟩
              · exact HD.out.1 g (by rw [← e]; exact hg)
              · rw [e] at hg; have := Option.some.inj hg; have h1 : (w3.alloc (.cells (madeCells #[.int .u64 0] k) 32)).heap.size = w3.heap.size + 1 := by simp
                rw [h1] at hb; omega
            · intro g hg
              rcases HD6.out with e | ⟨b, e, hb⟩
              · exact HD.out.2 g (by rw [← e]; exact hg)
              · rw [e] at hg; have := Option.some.inj hg; have := HK5.out.size; omega
            · intro e he
              rcases List.mem_append.1 he with he | he
              · exact HALL.out e he
              · rw [List.mem_singleton.1 he]
          case measure => simp [intOf]; omega
        · have HOK := Lib.hid (decide_eq_false hok)
          have hd1 : decide ((u : Int) + 1 + k ≤ n) = false := by simp; omega
          go_wp2_with (first | (go_at_call 9; refine (hneed_kept _ h p _ v d z n _ dr l HH.out HALL.out (1 + k) (by omega) (by omega)).mono ?_; rw [HU.out, HOK.out]; rintro e w3 ⟨z', v', rfl, hH3, hk3, hz3⟩; have HH3 := Lib.hid hH3; have HK3 := Lib.hid (Kept.trans HK.out hk3 (fun k hk e => (foot_new HD.out hp hk e).elim)); clear hH3 hk3 hz3))
          go_roundw
          case rel => exact ⟨i + 1, l, z', Ar, cr, rfl, by go_num, by rw [HU.out], by omega, ⟨⟨v', d, dr, HH3.out, HD.out.1, HD.out.2⟩, HALL.out, HK3.out, hh, hp⟩⟩
          case measure => simp [intOf]; omega
      · obtain rfl : i = ns := by omega
        have hz0 : z = u ∨ ∃ m : Nat, z = u + (m + 1) := by
          rcases Int.lt_or_le u z with h' | h'
          · exact .inr ⟨(z - u - 1).toNat, by omega⟩
          · exact .inl (by omega)
        rcases hz0 with rfl | ⟨m, rfl⟩
        · have hmk := fun W0 => run_make_row' (P := Try.prog) 29 32 (.int .u64 0) 8 under_words info_word rfl .i64 .i64 0 (by omega) (by omega) W0
          simp only [Int.natCast_zero] at hmk
          go_wp2_with (first
            | (go_at_call 12; refine (hcap_any HH.out.hp).mono ?_; rintro e w' ⟨rfl, rfl⟩)
            | (go_at_call 11; refine (hused_any HH.out.hp).mono ?_; rw [HU.out]; rintro e w' ⟨rfl, rfl⟩)
            | (go_at_call 10; go_loud (refine (hmake_no _ h p _ v d _ _ n (HH.out.hp.alloc _) 1 0 1 false (by decide) (by unfold I64; omega) _ _ _ (ws_zeros wr 0 (by omega)) rfl (.inr (by rw [HU.out]; omega))).mono ?_; rintro e w7 ⟨rfl, hk7⟩; have HH7 := Lib.hid ((HH.out.alloc (.cells (madeCells #[.int .u64 0] 0) 32)).only hk7); have HK7 := Lib.hid ((HK.out.alloc (.cells (madeCells #[.int .u64 0] 0) 32)).then hk7); clear hk7))
            | (go_at_call 12; refine (hcap_any HH7.out.hp).mono ?_; rintro e w' ⟨rfl, rfl⟩)
            | (go_at_call 11; refine (hused_any HH7.out.hp).mono ?_; rw [HU.out]; rintro e w' ⟨rfl, rfl⟩))
          go_ret
          exact ⟨rfl, HK7.out⟩
        · have hmk := fun W0 => run_make_row' (P := Try.prog) 29 32 (.int .u64 0) 8 under_words info_word rfl .i64 .i64 (m + 1) (by omega) (by omega) W0
          simp only [Int.natCast_add, Int.cast_ofNat_Int] at hmk
          have hmk2 := fun W0 => run_make_row' (P := Try.prog) 29 32 (.int .u64 0) 8 under_words info_word rfl .i64 .i64 m (by omega) (by omega) W0
          have hsb : (u : Int) + (m + 1) - u = m + 1 := by omega
          have hs1 : (m : Int) + 1 - 1 = m := by omega
          have hm0 : ((m : Int) + 1 == 0) = false := beq_eq_false_iff_ne.2 (by omega)
          have hm1 : decide (0 < (m : Int) + 1) = true := decide_eq_true (by omega)
          have HL9 : Hid (((tupW l ++ mkHd ⟨1, m, 1, false⟩ :: List.replicate m 0).length : Int) = u + (m + 1)) := Lib.hid (by
            have := HU.out
            simp only [List.length_append, List.length_cons, List.length_replicate]; omega)
          go_wp2_with (first
            | (go_at_call 12; refine (hcap_any HH.out.hp).mono ?_; rintro e w' ⟨rfl, rfl⟩)
            | (go_at_call 11; refine (hused_any HH.out.hp).mono ?_; rw [HU.out]; rintro e w' ⟨rfl, rfl⟩)
            | (go_at_call 10; refine (hmake_ok _ h p _ v d _ _ n (HH7.out.hp.alloc _) 1 1 m false (by omega) (by omega) (by omega) _ _ _ (ws_zeros w7 m (by omega)) (by simp) (by intro g hg e; have := HH7.out.hp.ar.ws.row.lt e; have := Option.some.inj hg; omega) (by rw [HU.out]; omega)).mono ?_; rintro e w9 ⟨rfl, v9, d9, hH9, hk9, hd9⟩; have HH9 := Lib.hid hH9; have HK9 := Lib.hid (Kept.trans (HK7.out.alloc (.cells (madeCells #[.int .u64 0] m) 32)) hk9 (fun k hk e => (foot_new (d := d) (dr := none) ⟨HD.out.1, fun g hg => by (cases hg)⟩ hp hk (by rcases e with e | e; exact .inr e; exact .inl (.inl e))).elim)); clear hk9 hH9 hd9)
            | (go_at_call 10; refine (hmake_no _ h p _ v d _ _ n (HH.out.hp.alloc _) 1 ((m : Int) + 1) 1 false (by decide) (by unfold I64; omega) _ _ _ (ws_zeros wr (m + 1) (by omega)) (by simp) (.inr (by rw [HU.out]; omega))).mono ?_; rintro e w7 ⟨rfl, hk7⟩; have HH7 := Lib.hid ((HH.out.alloc (.cells (madeCells #[.int .u64 0] (m + 1)) 32)).only hk7); have HK7 := Lib.hid ((HK.out.alloc (.cells (madeCells #[.int .u64 0] (m + 1)) 32)).then hk7); clear hk7)
            | (go_at_call 12; refine (hcap_any HH9.out).mono ?_; rintro e w' ⟨rfl, rfl⟩)
            | (go_at_call 11; refine (hused_any HH9.out).mono ?_; rw [HL9.out]; rintro e w' ⟨rfl, rfl⟩))
          go_ret
          exact ⟨rfl, HK9.out⟩
end Go.Proofs.Ytlkfbmebeodbmaa
