/- The statement HeapLive: the walk of live. -/
import Derived.Test.YtlkfbmebeodbmaaLive0
import Derived.Deep.CutBlock
import Derived.Deep.DeepCutAuto
set_option linter.unusedVariables false
namespace Go.Proofs.Ytlkfbmebeodbmaa
open Go.RowKit Go.Thr

set_option maxRecDepth 100000 in
set_option maxHeartbeats 4000000 in
theorem live_law (w : World) (a0 : Int) (h0 : 0 ≤ a0 ∧ a0 < 65536) (ask : Int) (hask : 0 ≤ ask ∧ ask < 700) (now : Bool) (vs : Value) (ns : Nat) (hvs : ∃ A c, vs = .slice A ns c) (hcs : ∀ wx, Only w wx → ∀ A c, vs = .slice A ns c → ∀ i, i < ns → ∃ x b, A = some x ∧ wx.cell? (x.add i) = some (.bool b)) :
    Calls Try.prog 13 #[.int .u16 a0, vs, .int .i64 ask, .bool now] w fun e w' => e = .returned (.bool true) ∧ Only w w' := by
  obtain ⟨As, cs, rfl⟩ := hvs
  have hCS := Lib.hid hcs
  have ha0 := h0.1
  have ha1 := h0.2
  have hk0 := hask.1
  have hk1 := hask.2
  clear hcs h0 hask
  have hr1 : a0.tmod 500 = a0 % 500 := Int.tmod_eq_emod_of_nonneg ha0
  by_cases hbig : 100 < ns
  · have hd : decide ((100 : Int) < ns) = true := by simp; omega
    go_enter Try.func13, Try.ntmps13
    go_wp2_with (go_at_call 6; refine (awake_any _).mono ?_; rintro e w1 ⟨rfl, hk1⟩)
    go_ret
    exact ⟨rfl, hk1⟩
  · have hd : decide ((100 : Int) < ns) = false := by simp; omega
    have hn0 : 32 ≤ 32 + a0 % 500 ∧ 32 + a0 % 500 ≤ 531 := by omega
    go_enter Try.func13, Try.ntmps13
    go_upto_block 0 with (first
      | (go_at_call 7; refine (snew_any _ 0 (by omega)).mono ?_; rintro e w2 ⟨rfl, hB2, hk2⟩; have HK2 := Lib.hid hk2; have hs2 := hk2.size; clear hk2 hB2; generalize w.heap.size = st at *)
      | (go_at_call 8; generalize 32 + a0 % 500 = n at *; refine (hnew_any _ n (by omega) _ ⟨_, rfl⟩).mono ?_; rintro e w3 ⟨p, rfl, hH3, hk3, hp3⟩; have HG3 := Lib.hid (show LSt w w3 w2.heap.size p (.pointer (some ⟨st, 0, none⟩)) (roomZ n 0) n (.slice none 0 0) [] from ⟨⟨_, _, _, HSt.start hH3, (fun g hg => by (cases hg)), (fun g hg => by (cases hg))⟩, (fun e he => by (cases he)), HK2.out.then hk3, HK2.out.size, by have := HK2.out.size; omega⟩); generalize w2.heap.size = h at *; clear hk3 hH3 hp3 hs2 HK2))
    generalize roomZ n 0 = z0 at *
    go_cut [12, 13, 14, 15] (fun rv _ _ _ wx => ∃ (l : List (Nat × Bool)) (z : Int) (Ar : Option Addr) (cr : Nat), rv = .slice Ar (posR l 0).length cr ∧ LSt w wx h p (.pointer (some ⟨st, 0, none⟩)) z n (.slice Ar (posR l 0).length cr) l)
    case first =>
      go_wp2_with fail
      go_loopw [12, 13] (fun rv iv wx => ∃ (i : Nat) (l : List (Nat × Bool)) (z : Int) (Ar : Option Addr) (cr : Nat), rv = .slice Ar (posR l 0).length cr ∧ iv = .int .i64 i ∧ i ≤ ns ∧ LSt w wx h p (.pointer (some ⟨st, 0, none⟩)) z n (.slice Ar (posR l 0).length cr) l) (fun _ iv _ => ns - (intOf iv).toNat)
      case atStart => exact ⟨0, [], z0, none, 0, rfl, rfl, by omega, HG3.out⟩
      case round =>
        clear HG3
        obtain ⟨i, l, z, Ar, cr, rfl, rfl, hi, hG⟩ := hrel
        obtain ⟨⟨v, d, dr, hH, hdn, hdrn⟩, h3, honly, hh, hp⟩ := hG
        have HH := Lib.hid hH
        have H3 := Lib.hid h3
        have HK := Lib.hid honly
        have HD := Lib.hid (And.intro hdn hdrn)
        have hrl := hH.rlen
        simp only [ptrs, List.length_map] at hrl
        have hq : ∃ q, (posR l 0).length = q := ⟨_, rfl⟩
        obtain ⟨q, hq⟩ := hq
        rw [hq] at hrl HH ⊢
        have HQ := Lib.hid hq
        clear hH h3 honly hdn hdrn hq
        by_cases hlt : i < ns
        · obtain ⟨x, b, rfl, hcell⟩ := hCS.out w (Kept.refl _ _) _ _ rfl i hlt
          have HC := Lib.hid hcell
          clear hcell
          by_cases hok : 4 * (q : Int) + 4 ≤ n
          · have HOK := Lib.hid (decide_eq_true hok)
            cases b with
            | true =>
              go_wp2_with (first
                | (go_at_call 9; refine (hneed3 _ h p _ v d z n _ dr l HH.out H3.out 4 (by omega) (by omega)).mono ?_; rw [HQ.out, HOK.out]; rintro e w3 ⟨l', z', v', rfl, hH3, h3', hq', hk3, hz3⟩; have HH3 := Lib.hid hH3; have H3' := Lib.hid h3'; have HQ' := Lib.hid hq'; have HK3 := Lib.hid (Kept.trans HK.out hk3 (fun k hk e => (foot_new HD.out hp hk e).elim)); have hz3' := hz3 hok; clear hH3 hk3 hz3 h3' hq')
                | (go_at_call 10; refine (hmake_tup _ h p _ v' d z' n _ dr l' (HH3.out.alloc _) 3 (by omega) hz3' 4 rfl true _ _ (ws_three w3) (by intro g hg e; have := HH3.out.hp.ar.ws.row.lt e; have := Option.some.inj hg; omega)).mono ?_; rintro e w5 ⟨rfl, v5, d5, hH5, hW5, hne5, hk5, hd5⟩; have HH5 := Lib.hid hH5; have hR5 := row_ptrs hW5.row; rw [HQ'.out] at hR5; have hR5 := Lib.hid hR5; have HNE5 := Lib.hid hne5; have HD5 := Lib.hid hd5; have HK5 := Lib.hid (Kept.trans (HK3.out.alloc (.cells #[.int .u64 0, .int .u64 0, .int .u64 0] 32)) hk5 (fun k hk e => (foot_new (d := d) (dr := none) ⟨HD.out.1, fun g hg => by (cases hg)⟩ hp hk (by rcases e with e | e; exact .inr e; exact .inl (.inl e))).elim)); have hw5 := HK3.out.size; have hcell5 := HK5.out.cell (fun h => h) HC.out; obtain ⟨u, hu⟩ : ∃ u, (tupW l').length = u := ⟨_, rfl⟩; rw [hu]; have HU := Lib.hid hu; clear hH5 hW5 hne5 hk5 hd5 hu)
                | (at_builtin; go_loud (refine wpList_push1 rfl _ _ _ 32 (.int .u64 0) 8 rfl under_words info_word rfl (by decide) _ dr q (words (ptrs (posR l' 0))) (.int .u64 (mkw 5 u)) rfl _ (by simp) rfl rfl (by exact hR5.out) (by omega) ?_; intro v6 d6 w6 hR6 hk6 hd6; have HH6 := Lib.hid (push_root HH5.out HNE5.out HH3.out.small (by omega) hR5.out (by rw [HU.out]; exact hR6) hk6 hd6); have HK6 := Lib.hid (Kept.trans HK5.out hk6 (fun j hj e => by have := HD.out.2 j e.symm; omega)); have HD6 := Lib.hid hd6; obtain ⟨A6, c6, rfl⟩ := hR6.shape; clear hR6 hk6 hd6)))
              go_roundw
              case rel =>
                have e : (posR (l' ++ [(3, true)]) 0).length = q + 1 := by rw [posR_snoc]; simp; exact HQ'.out
                refine ⟨i + 1, l' ++ [(3, true)], z', A6, c6, by rw [e], by go_num, by omega, ⟨⟨v5, d5, d6, ?_, ?_, ?_⟩, H3'.out.snoc true, HK6.out, hh, hp⟩⟩
                · rw [e]; exact HH6.out
                · intro g hg
                  rcases HD5.out with e | ⟨b, e, hb⟩
                  · exact HD.out.1 g (by rw [← e]; exact hg)
                  · rw [e] at hg; have := Option.some.inj hg; have h1 : (w3.alloc (.cells #[.int .u64 0, .int .u64 0, .int .u64 0] 32)).heap.size = w3.heap.size + 1 := by simp
                    rw [h1] at hb; omega
                · intro g hg
                  rcases HD6.out with e | ⟨b, e, hb⟩
                  · exact HD.out.2 g (by rw [← e]; exact hg)
                  · rw [e] at hg; have := Option.some.inj hg; have := HK5.out.size; omega
              case measure => simp [intOf]; omega
            | false =>
              go_wp2_with (first
                | (go_at_call 9; refine (hneed3 _ h p _ v d z n _ dr l HH.out H3.out 4 (by omega) (by omega)).mono ?_; rw [HQ.out, HOK.out]; rintro e w3 ⟨l', z', v', rfl, hH3, h3', hq', hk3, hz3⟩; have HH3 := Lib.hid hH3; have H3' := Lib.hid h3'; have HQ' := Lib.hid hq'; have HK3 := Lib.hid (Kept.trans HK.out hk3 (fun k hk e => (foot_new HD.out hp hk e).elim)); have hz3' := hz3 hok; clear hH3 hk3 hz3 h3' hq')
                | (go_at_call 10; refine (hmake_tup _ h p _ v' d z' n _ dr l' (HH3.out.alloc _) 3 (by omega) hz3' 4 rfl false _ _ (ws_three w3) (by intro g hg e; have := HH3.out.hp.ar.ws.row.lt e; have := Option.some.inj hg; omega)).mono ?_; rintro e w5 ⟨rfl, v5, d5, hH5, hW5, hne5, hk5, hd5⟩; have HH5 := Lib.hid (skip_root hH5 hW5 hne5 HH3.out.small (by omega)); have HD5 := Lib.hid hd5; have HK5 := Lib.hid (Kept.trans (HK3.out.alloc (.cells #[.int .u64 0, .int .u64 0, .int .u64 0] 32)) hk5 (fun k hk e => (foot_new (d := d) (dr := none) ⟨HD.out.1, fun g hg => by (cases hg)⟩ hp hk (by rcases e with e | e; exact .inr e; exact .inl (.inl e))).elim)); have hw5 := HK3.out.size; have hcell5 := HK5.out.cell (fun h => h) HC.out; clear hH5 hW5 hne5 hk5 hd5))
              go_roundw
              case rel =>
                have e : (posR (l' ++ [(3, false)]) 0).length = q := by rw [posR_snoc]; simp; exact HQ'.out
                refine ⟨i + 1, l' ++ [(3, false)], z', Ar, cr, by rw [e], by go_num, by omega, ⟨⟨v5, d5, dr, ?_, ?_, HD.out.2⟩, H3'.out.snoc false, HK5.out, hh, hp⟩⟩
                · rw [e]; exact HH5.out
                · intro g hg
                  rcases HD5.out with e | ⟨b, e, hb⟩
                  · exact HD.out.1 g (by rw [← e]; exact hg)
                  · rw [e] at hg; have := Option.some.inj hg; have h1 : (w3.alloc (.cells #[.int .u64 0, .int .u64 0, .int .u64 0] 32)).heap.size = w3.heap.size + 1 := by simp
                    rw [h1] at hb; omega
              case measure => simp [intOf]; omega
          · have HOK := Lib.hid (decide_eq_false hok)
            go_wp2_with (first | (go_at_call 9; refine (hneed3 _ h p _ v d z n _ dr l HH.out H3.out 4 (by omega) (by omega)).mono ?_; rw [HQ.out, HOK.out]; rintro e w3 ⟨l', z', v', rfl, hH3, h3', hq', hk3, hz3⟩; have HH3 := Lib.hid hH3; have H3' := Lib.hid h3'; have HQ' := Lib.hid hq'; have HK3 := Lib.hid (Kept.trans HK.out hk3 (fun k hk e => (foot_new HD.out hp hk e).elim)); clear hH3 hk3 hz3 h3' hq'))
            go_meet
            case rel =>
              exact ⟨l', z', Ar, cr, by rw [HQ'.out], ⟨⟨v', d, dr, by rw [HQ'.out]; exact HH3.out, HD.out.1, HD.out.2⟩, H3'.out, HK3.out, hh, hp⟩⟩
        · obtain rfl : i = ns := by omega
          go_wp2_with fail
          go_meet
          case rel =>
            exact ⟨l, z, Ar, cr, by rw [HQ.out], ⟨⟨v, d, dr, by rw [HQ.out]; exact HH.out, HD.out.1, HD.out.2⟩, H3.out, HK.out, hh, hp⟩⟩
    case rest =>
      clear HG3
      obtain ⟨l, z, Ar, cr, rfl, hG⟩ := hcut
      obtain ⟨⟨v, d, dr, hH, hdn, hdrn⟩, h3, honly, hh, hp⟩ := hG
      have hlen := hH.len
      have hl1 := h3.len
      have hl2 := h3.keep.len
      have hl3 := keep_le l
      have hp1 := posR_len l 0
      have hp2 := posR_len (keep l) 0
      rw [keep_keep] at hp2
      obtain ⟨q, hq⟩ : ∃ q, (posR l 0).length = q := ⟨_, rfl⟩
      rw [hq] at hp1 hH ⊢
      have HH := Lib.hid hH
      have H3 := Lib.hid h3
      have H3k := Lib.hid h3.keep
      have HK := Lib.hid honly
      have HD := Lib.hid (And.intro hdn hdrn)
      have HQl := Lib.hid hq
      have HQk := Lib.hid (hp2.trans hp1.symm)
      have hq4 : 4 * (q : Int) ≤ 1048576 := by omega
      have HQ : Hid ((posR l 0).length = q ∧ ((tupW (keep l)).length : Int) = 4 * q) := Lib.hid ⟨hq, by omega⟩
      have hrm : Hid (roomZ n (4 * (q : Int)) ≤ max 32 (2 * (4 * (q : Int)))) := Lib.hid (by unfold roomZ; split <;> split <;> omega)
      have hrz := hrm.out
      clear hH h3 honly hdn hdrn hq hp1 hp2 hl1 hl2 hl3 hlen
      by_cases hw : 4 * (q : Int) + ask ≤ n
      · have hdw : decide (4 * (q : Int) + ask ≤ n) = true := decide_eq_true hw
        have HW := Lib.hid hdw
        cases now with
        | true =>
          have hng : ¬ ((if 32 < 2 * (4 * (q : Int)) then 2 * (4 * (q : Int)) else 32) < roomZ n (4 * (q : Int))) := by have := hrm.out; split <;> omega
          have hngd := decide_eq_false hng
          go_wp2_with (first
            | (go_at_call 16; refine (hcoll_any _ h p _ v d z n _ dr l HH.out).mono ?_; rintro e w6 ⟨rfl, v6, hH6, hk6⟩; rw [HQ.out.2] at hH6; have HH6 := Lib.hid hH6; have HK6 := Lib.hid (Kept.trans HK.out hk6 (fun k hk e => (foot_new HD.out hp hk e).elim)); clear hH6 hk6)
            | (go_at_call 11; refine (hused_any HH6.out.hp).mono ?_; rw [HQ.out.2]; rintro e w' ⟨rfl, rfl⟩)
            | (go_at_call 12; refine (hcap_any HH6.out.hp).mono ?_; rintro e w' ⟨rfl, rfl⟩)
            | (go_at_call 9; refine (hneed3 _ h p _ v6 d _ n _ dr (keep l) HH6.out H3k.out ask (by omega) (by omega)).mono ?_; rw [HQk.out, HW.out]; rintro e w3 ⟨l', z', v', rfl, hH3, h3', hq', hk3, hz3⟩; have HH3 := Lib.hid hH3; have HK3 := Lib.hid (Kept.trans HK6.out hk3 (fun k hk e => (foot_new HD.out hp hk e).elim)); have HZ3 := Lib.hid hz3; clear hH3 hk3 hz3 h3' hq')
            | (go_at_call 6; refine (awake_any _).mono ?_; rintro e w4 ⟨rfl, hk4⟩; have HH4 := Lib.hid (HH3.out.only hk4); have HK4 := Lib.hid (HK3.out.then hk4); have hl4 := HH4.out.len; obtain ⟨u, hu⟩ : ∃ u, (tupW l').length = u := ⟨_, rfl⟩; rw [hu] at hl4; have HU := Lib.hid hu; have hc1 : decide (z' ≤ n) = true := decide_eq_true hl4.2.1; have hz4 := HZ3.out hw; rw [HU.out] at hz4; have hc2 : decide (ask ≤ z' - (u : Int)) = true := decide_eq_true hz4; clear hk4 hu)
            | (go_at_call 12; refine (hcap_any HH4.out.hp).mono ?_; rintro e w' ⟨rfl, rfl⟩)
            | (go_at_call 11; refine (hused_any HH4.out.hp).mono ?_; rw [HU.out]; rintro e w' ⟨rfl, rfl⟩))
          all_goals
            go_ret
            exact ⟨rfl, HK4.out⟩
        | false =>
          go_wp2_with (first
            | (go_at_call 9; refine (hneed3 _ h p _ v d z n _ dr l HH.out H3.out ask (by omega) (by omega)).mono ?_; rw [HQl.out, HW.out]; rintro e w3 ⟨l', z', v', rfl, hH3, h3', hq', hk3, hz3⟩; have HH3 := Lib.hid hH3; have HK3 := Lib.hid (Kept.trans HK.out hk3 (fun k hk e => (foot_new HD.out hp hk e).elim)); have HZ3 := Lib.hid hz3; clear hH3 hk3 hz3 h3' hq')
            | (go_at_call 6; refine (awake_any _).mono ?_; rintro e w4 ⟨rfl, hk4⟩; have HH4 := Lib.hid (HH3.out.only hk4); have HK4 := Lib.hid (HK3.out.then hk4); have hl4 := HH4.out.len; obtain ⟨u, hu⟩ : ∃ u, (tupW l').length = u := ⟨_, rfl⟩; rw [hu] at hl4; have HU := Lib.hid hu; have hc1 : decide (z' ≤ n) = true := decide_eq_true hl4.2.1; have hz4 := HZ3.out hw; rw [HU.out] at hz4; have hc2 : decide (ask ≤ z' - (u : Int)) = true := decide_eq_true hz4; clear hk4 hu)
            | (go_at_call 12; refine (hcap_any HH4.out.hp).mono ?_; rintro e w' ⟨rfl, rfl⟩)
            | (go_at_call 11; refine (hused_any HH4.out.hp).mono ?_; rw [HU.out]; rintro e w' ⟨rfl, rfl⟩))
          all_goals
            go_ret
            exact ⟨rfl, HK4.out⟩
      · have hdw : decide (4 * (q : Int) + ask ≤ n) = false := decide_eq_false hw
        have HW := Lib.hid hdw
        cases now with
        | true =>
          have hng : ¬ ((if 32 < 2 * (4 * (q : Int)) then 2 * (4 * (q : Int)) else 32) < roomZ n (4 * (q : Int))) := by have := hrm.out; split <;> omega
          have hngd := decide_eq_false hng
          go_wp2_with (first
            | (go_at_call 16; refine (hcoll_any _ h p _ v d z n _ dr l HH.out).mono ?_; rintro e w6 ⟨rfl, v6, hH6, hk6⟩; rw [HQ.out.2] at hH6; have HH6 := Lib.hid hH6; have HK6 := Lib.hid (Kept.trans HK.out hk6 (fun k hk e => (foot_new HD.out hp hk e).elim)); clear hH6 hk6)
            | (go_at_call 11; refine (hused_any HH6.out.hp).mono ?_; rw [HQ.out.2]; rintro e w' ⟨rfl, rfl⟩)
            | (go_at_call 12; refine (hcap_any HH6.out.hp).mono ?_; rintro e w' ⟨rfl, rfl⟩)
            | (go_at_call 9; refine (hneed3 _ h p _ v6 d _ n _ dr (keep l) HH6.out H3k.out ask (by omega) (by omega)).mono ?_; rw [HQk.out, HW.out]; rintro e w3 ⟨l', z', v', rfl, hH3, h3', hq', hk3, hz3⟩; have HH3 := Lib.hid hH3; have HK3 := Lib.hid (Kept.trans HK6.out hk3 (fun k hk e => (foot_new HD.out hp hk e).elim)); have HZ3 := Lib.hid hz3; clear hH3 hk3 hz3 h3' hq')
            | (go_at_call 6; refine (awake_any _).mono ?_; rintro e w4 ⟨rfl, hk4⟩; have HH4 := Lib.hid (HH3.out.only hk4); have HK4 := Lib.hid (HK3.out.then hk4); have hl4 := HH4.out.len; obtain ⟨u, hu⟩ : ∃ u, (tupW l').length = u := ⟨_, rfl⟩; rw [hu] at hl4; have HU := Lib.hid hu; have hc1 : decide (z' ≤ n) = true := decide_eq_true hl4.2.1; clear hk4 hu)
            | (go_at_call 12; refine (hcap_any HH4.out.hp).mono ?_; rintro e w' ⟨rfl, rfl⟩)
            | (go_at_call 11; refine (hused_any HH4.out.hp).mono ?_; rw [HU.out]; rintro e w' ⟨rfl, rfl⟩))
          all_goals
            go_ret
            exact ⟨rfl, HK4.out⟩
        | false =>
          go_wp2_with (first
            | (go_at_call 9; refine (hneed3 _ h p _ v d z n _ dr l HH.out H3.out ask (by omega) (by omega)).mono ?_; rw [HQl.out, HW.out]; rintro e w3 ⟨l', z', v', rfl, hH3, h3', hq', hk3, hz3⟩; have HH3 := Lib.hid hH3; have HK3 := Lib.hid (Kept.trans HK.out hk3 (fun k hk e => (foot_new HD.out hp hk e).elim)); have HZ3 := Lib.hid hz3; clear hH3 hk3 hz3 h3' hq')
            | (go_at_call 6; refine (awake_any _).mono ?_; rintro e w4 ⟨rfl, hk4⟩; have HH4 := Lib.hid (HH3.out.only hk4); have HK4 := Lib.hid (HK3.out.then hk4); have hl4 := HH4.out.len; obtain ⟨u, hu⟩ : ∃ u, (tupW l').length = u := ⟨_, rfl⟩; rw [hu] at hl4; have HU := Lib.hid hu; have hc1 : decide (z' ≤ n) = true := decide_eq_true hl4.2.1; clear hk4 hu)
            | (go_at_call 12; refine (hcap_any HH4.out.hp).mono ?_; rintro e w' ⟨rfl, rfl⟩)
            | (go_at_call 11; refine (hused_any HH4.out.hp).mono ?_; rw [HU.out]; rintro e w' ⟨rfl, rfl⟩))
          all_goals
            go_ret
            exact ⟨rfl, HK4.out⟩
end Go.Proofs.Ytlkfbmebeodbmaa
