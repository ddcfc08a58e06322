/- Contracts of package heap: Collect and Need, where no Bin is. -/
import Derived.Test.YtlkfbmebeodbmaaHeap3
set_option linter.unusedVariables false
namespace Go.Proofs.Ytlkfbmebeodbmaa
open Go.RowKit Go.Thr

theorem need_fits (w : World) (h p : Nat) (sv v : Value) (d : Option Nat) (W : List Int) (z mst : Int) (H : Hp w h p sv v d W z mst) (vr : Value) (n : Int) (hn : 0 ≤ n) (hz : n ≤ z - W.length) :
    Calls Try.prog 9 #[.pointer (some ⟨h, 0, none⟩), .int .i64 n, vr] w fun e w' => e = .returned (.bool true) ∧ Only w w' := by
  have hm := H.ar.max
  have hl := H.ar.len
  have hH := Lib.hid H
  have a0 := H.blk.cell 0 rfl
  have hw1 : IntKind.i64.wrap (z - (W.length : Int)) = z - W.length := by rw [IntKind.wrap_i64]; omega
  have hd : decide (n ≤ z - (W.length : Int)) = true := by simp; omega
  have hn0 : ¬ n < 0 := by omega
  clear H
  go_enter Try.func9, Try.ntmps9
  go_wp2_with (go_at_call 24; refine (alive_any _ _ _ _ _ hH.out.blk).mono ?_; rintro e w' ⟨rfl, rfl⟩)
  go_region_held3 (fun w' => w'.cell? ⟨h, 0, none⟩ = some (.pointer (some ⟨p, 0, none⟩)))
    (first | go_keep)
    (first | (go_at_call 26; refine (used_any _ _ _ _ _ _ hH.out.ar.drew).mono ?_; rintro e w' ⟨rfl, rfl⟩) | (go_at_call 25; refine (size_any _ _ _ _ _ _ hH.out.ar.drew).mono ?_; rintro e w' ⟨rfl, rfl⟩))
  go_wp2
  go_ret
  exact ⟨rfl, (Kept.refl _ w).drew⟩

section
variable (w : World) (h p : Nat) (sv v : Value) (d : Option Nat) (W : List Int) (z mst : Int) (H : Hp w h p sv v d W z mst)
variable (vr : Value) (dr : Option Nat) (R : List Int) (HR : Ws w vr dr R) (hne : ∀ g, d = some g → dr ≠ some g) (hRl : R.length ≤ 1000000000) (L : List Nat) (S : Snd W R L) (hg : ∀ a ∈ L, goneAt W a = [])
include H HR hne hRl S hg

theorem hcollect_any :
    Calls Try.prog 16 #[.pointer (some ⟨h, 0, none⟩), vr] w fun e w' => e = .returned (.tuple #[]) ∧ ∃ M v', LiveL W R M ∧ Hp w' h p sv v' d (finW W R M (szO W) (nfO W)) (roomZ mst (finW W R M (szO W) (nfO W)).length) mst ∧ Ws w' vr dr (finR W R M (szO W) (nfO W)) ∧ Kept (fun k => foot2 d dr k ∨ k = p) w w' := by
  have hH := Lib.hid H
  have hC := Lib.hid (collect_any w h p sv v d W z mst H vr dr R HR hne hRl L S hg)
  clear H HR S hg hne
  go_enter Try.func16, Try.ntmps16
  go_wp2_with (first | (go_at_call 24; refine (alive_any _ _ _ _ _ hH.out.blk).mono ?_; rintro e w' ⟨rfl, rfl⟩) | (go_at_call 27; refine hC.out.mono ?_; rintro e w1 ⟨rfl, M, v1, hL1, hH1, hR1, hK1⟩))
  go_end0
  exact ⟨rfl, M, v1, hL1, hH1, hR1, hK1⟩

theorem need_more (n : Int) (hn : 0 ≤ n) (hn1 : n ≤ 1048576) (hz : z - W.length < n) :
    Calls Try.prog 9 #[.pointer (some ⟨h, 0, none⟩), .int .i64 n, vr] w fun e w' => ∃ M v', LiveL W R M ∧ e = .returned (.bool (decide (n ≤ mst - (finW W R M (szO W) (nfO W)).length))) ∧
      Hp w' h p sv v' d (finW W R M (szO W) (nfO W)) (if n ≤ mst - (finW W R M (szO W) (nfO W)).length then roomZ mst ((finW W R M (szO W) (nfO W)).length + n) else roomZ mst (finW W R M (szO W) (nfO W)).length) mst ∧ Ws w' vr dr (finR W R M (szO W) (nfO W)) ∧ Kept (fun k => foot2 d dr k ∨ k = p) w w' := by
  have hm := H.ar.max
  have hl := H.ar.len
  have hm0 := H.m0
  have hm1 := H.m1
  have hzm := H.zm
  have hH := Lib.hid H
  have hph := H.ne
  have hfp : ∀ g, dr = some g → g ≠ p := fun g hg => HR.row.ne H.ar.blk (by decide) g hg
  have HFP := Lib.hid hfp
  have hC := Lib.hid (collect_any w.drew.drew h p sv v d W z mst H.drew.drew vr dr R ((HR.drewN 1).drewN 1) hne hRl L S hg)
  have a0 := H.blk.cell 0 rfl
  have hw1 : IntKind.i64.wrap (z - (W.length : Int)) = z - W.length := by rw [IntKind.wrap_i64]; omega
  have hd : decide (n ≤ z - (W.length : Int)) = false := by simp; omega
  have hn0 : ¬ n < 0 := by omega
  clear H HR S hg hne hfp
  go_enter Try.func9, Try.ntmps9
  go_wp2_with (go_at_call 24; refine (alive_any _ _ _ _ _ hH.out.blk).mono ?_; rintro e w' ⟨rfl, rfl⟩)
  go_region_held3 (fun w' => w'.cell? ⟨h, 0, none⟩ = some (.pointer (some ⟨p, 0, none⟩)))
    (first | go_keep)
    (first | (go_at_call 26; refine (used_any _ _ _ _ _ _ hH.out.ar.drew).mono ?_; rintro e w' ⟨rfl, rfl⟩) | (go_at_call 25; refine (size_any _ _ _ _ _ _ hH.out.ar.drew).mono ?_; rintro e w' ⟨rfl, rfl⟩))
  clear hw1 hd hn0 a0
  have a0 := (hH.out.drew).blk.cell 0 rfl
  have a2 := (hH.out.drew).blk.cell 2 rfl
  go_wp2_with fail
  go_region_held3 (fun w' => w'.cell? ⟨h, 0, none⟩ = some (.pointer (some ⟨p, 0, none⟩)) ∧ w'.cell? ⟨h, 2, none⟩ = some (.int .i64 mst))
    (first | go_keep | exact ⟨hH1'.out.blk.cell 0 rfl, hH1'.out.blk.cell 2 rfl⟩)
    (first | (go_at_call 27; refine hC.out.mono ?_; rintro e w1 ⟨rfl, M, v1, hL1, hH1, hR1, hK1⟩; have hH1' := Lib.hid hH1; have hR1' := Lib.hid hR1; have hK1' := Lib.hid hK1; have hL1' := Lib.hid hL1; have hXl := hH1.ar.len; have hXz := hH1.zm; clear hH1 hR1 hK1 hL1; generalize hX : finW W R M (szO W) (nfO W) = X at *; have HX := Lib.hid hX; clear hX; have hw2 : IntKind.i64.wrap (mst - (X.length : Int)) = mst - X.length := (by rw [IntKind.wrap_i64]; omega)) | (go_at_call 26; refine (used_any _ _ _ _ _ _ hH1'.out.ar).mono ?_; rintro e w' ⟨rfl, rfl⟩))
  clear a0 a2 hw2
  by_cases hc : n ≤ mst - (X.length : Int)
  · have hd : decide (mst - (X.length : Int) < n) = false := by simp; omega
    have hd2 : decide (n ≤ mst - (X.length : Int)) = true := by simp; omega
    have hw3 : IntKind.i64.wrap ((X.length : Int) + n) = X.length + n := by rw [IntKind.wrap_i64]; omega
    have a0 := hH1'.out.blk.cell 0 rfl
    have hrg := roomZ_ge (mst := mst) (u := (X.length : Int) + n) (by omega) (by omega)
    have hrl := roomZ_le (mst := mst) (u := (X.length : Int) + n)
    have HD := Lib.hid (And.intro hd2 hc)
    clear hd2
    go_wp2_with fail
    go_region_held3 (fun w' => w'.cell? ⟨h, 0, none⟩ = some (.pointer (some ⟨p, 0, none⟩)))
      (first | go_keep | exact hB3.out.cell 0 rfl)
      (first | (go_at_call 26; refine (used_any _ _ _ _ _ _ hH1'.out.ar.drew).mono ?_; rintro e w' ⟨rfl, rfl⟩) | (go_at_call 23; refine (room_any _ _ _ _ _ _ ⟨hm0, hm1⟩ hH1'.out.blk.drew ((X.length : Int) + n) (by omega)).mono ?_; rintro e w' ⟨rfl, rfl⟩) | (go_at_call 28; refine (cut_ok _ _ _ _ _ _ hH1'.out.ar.drew X.length (Nat.le_refl _) _ (by omega) (by omega)).mono ?_; rw [List.take_length]; rintro e w3 ⟨rfl, v3, hA3, hk3⟩; have hA3' := Lib.hid hA3; have hB3 := Lib.hid (hH1'.out.blk.drew.kept hk3 hph); have hK3 := Lib.hid hk3; clear hA3 hk3))
    clear hw3 hd
    go_wp2
    go_ret
    refine ⟨M, v3, ?_⟩
    rw [HX.out]
    refine ⟨hL1'.out, by rw [HD.out.1]; rfl, ?_, ?_, ?_⟩
    · rw [if_pos HD.out.2]; exact ⟨hB3.out, hA3'.out, hm0, hm1, hrl⟩
    · exact (hR1'.out.drewN 1).kept hK3.out (fun g hg e => HFP.out g hg e)
    · exact Kept.trans (S := fun k => foot2 d dr k ∨ k = p) (Kept.trans (S := fun k => foot2 d dr k ∨ k = p) (((Kept.refl _ w).drew).drew) hK1'.out.drew (fun _ _ h => h)) hK3.out (fun k hk e => .inr e)
  · have hd : decide (mst - (X.length : Int) < n) = true := by simp; omega
    have hd2 : decide (n ≤ mst - (X.length : Int)) = false := by simp; omega
    have HD := Lib.hid (And.intro hd2 hc)
    clear hd2
    go_wp2
    go_ret
    refine ⟨M, ?_⟩
    rw [HX.out]
    refine ⟨hL1'.out, by rw [HD.out.1]; rfl, ⟨v1, ?_⟩, hR1'.out, ?_⟩
    · rw [if_neg (by have := HD.out.2; omega)]; exact hH1'.out
    · exact Kept.trans (S := fun k => foot2 d dr k ∨ k = p) (((Kept.refl _ w).drew).drew) hK1'.out (fun _ _ h => h)
end
end Go.Proofs.Ytlkfbmebeodbmaa
