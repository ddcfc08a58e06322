/- Contracts of package slide: words are moved down. -/
import Derived.Test.YtlkfbmebeodbmaaUp2
set_option linter.unusedVariables false
namespace Go.Proofs.Ytlkfbmebeodbmaa
open Go.RowKit Go.Thr

def mv (m : Fld → Int) (src dst n : Nat) : Fld → Int
  | .root i => m (.root i)
  | .mem q => if dst ≤ q ∧ q < dst + n then m (.mem (q - dst + src)) else m (.mem q)
theorem mv_zero (m : Fld → Int) (src dst : Nat) : mv m src dst 0 = m := by
  funext f; cases f with
  | root i => rfl
  | mem q => simp only [mv]; rw [if_neg (by omega)]
theorem mv_succ (m : Fld → Int) (src dst k : Nat) : upd (mv m src dst k) (.mem (dst + k)) (m (.mem (src + k))) = mv m src dst (k + 1) := by
  funext f; cases f with
  | root i => simp [upd, mv]
  | mem q =>
    by_cases e : q = dst + k
    · subst e; rw [upd_same]; simp only [mv]; rw [if_pos (by omega)]; congr 2; omega
    · rw [upd_other _ _ (by intro e'; exact e (Fld.mem.inj e'))]
      simp only [mv]
      by_cases h : dst ≤ q ∧ q < dst + k
      · rw [if_pos h, if_pos (by omega)]
      · rw [if_neg h, if_neg (by omega)]
theorem mv_read (m : Fld → Int) {src dst k : Nat} (h : dst ≤ src) : mv m src dst k (.mem (src + k)) = m (.mem (src + k)) := by
  simp only [mv]; rw [if_neg (by omega)]

set_option maxHeartbeats 400000 in
theorem move_any (w : World) (p : Nat) (v : Value) (d : Option Nat) (vr : Value) (dr : Option Nat) (z : Int) (nW nR : Nat) (m : Fld → Int) (H : TSt w p v d vr dr z nW nR m)
    (s : Nat) (c1 c2 c3 : Value) (HS : Blk w s 96 [.pointer (some ⟨p, 0, none⟩), c1, c2, c3]) (src dst n : Nat) (hd : dst ≤ src) (hn : src + n ≤ nW) :
    Calls Try.prog 71 #[.pointer (some ⟨s, 0, none⟩), .int .i64 src, .int .i64 dst, .int .i64 n] w fun e w' => e = .returned (.tuple #[]) ∧ TSt w' p v d vr dr z nW nR (mv m src dst n) ∧ Kept (foot2 d dr) w w' := by
  have hmx := H.max
  have hss : ¬ foot2 d dr s := by
    obtain ⟨⟨_, h1, _⟩, ⟨_, h4, _⟩, _⟩ := H
    rintro (hk | hk)
    · exact h1.ws.row.ne HS (by decide) s hk.symm rfl
    · exact h4.row.ne HS (by decide) s hk.symm rfl
  have hH := Lib.hid H
  have hS := Lib.hid HS
  clear H HS
  go_enter Try.func71, Try.ntmps71
  go_wp2
  go_loopw [12] (fun iv wx => ∃ k : Nat, iv = .int .i64 k ∧ k ≤ n ∧ TSt wx p v d vr dr z nW nR (mv m src dst k) ∧ Kept (foot2 d dr) w wx) (fun iv _ => n - (intOf iv).toNat)
  case atStart => exact ⟨0, rfl, by omega, by rw [mv_zero]; exact hH.out, Kept.refl _ _⟩
  case round =>
    obtain ⟨k, rfl, hk, hT, hK⟩ := hrel
    have HT := Lib.hid hT
    have HK := Lib.hid hK
    have hS1 := Lib.hid (hS.out.kept hK hss)
    have s0 := hS1.out.cell 0 rfl
    by_cases hlt : k < n
    · have hrd : Hid (mv m src dst k (.mem (src + k)) = m (.mem (src + k))) := Lib.hid (mv_read m hd)
      have hrr := hT.rng (f := .mem (src + k)) (by simp only [InR]; omega)
      clear hT hK
      generalize hx : mv m src dst k (.mem (src + k)) = x at *
      have HX := Lib.hid hx
      clear hx
      go_wp2_with (first | (go_at_call 39; refine (tget_any _ _ _ _ _ _ _ _ _ _ HT.out _ (src + k) (by omega) (by omega)).mono ?_; rw [HX.out]; rintro e w' ⟨rfl, rfl⟩) | (go_at_call 31; refine (tset_any _ _ _ _ _ _ _ _ _ _ HT.out _ (dst + k) (by omega) (by omega) _ hrr).mono ?_; rintro e w2 ⟨rfl, hT2, hk2⟩))
      go_roundw
      case rel =>
        refine ⟨k + 1, by go_num, by omega, ?_, Kept.trans HK.out (by assumption) (fun _ _ h => h)⟩
        rw [← mv_succ, ← hrd.out]; assumption
      case measure => simp [intOf]; omega
    · obtain rfl : k = n := by omega
      clear hT hK
      go_wp2
      go_end0
      exact ⟨rfl, HT.out, HK.out⟩
end Go.Proofs.Ytlkfbmebeodbmaa
