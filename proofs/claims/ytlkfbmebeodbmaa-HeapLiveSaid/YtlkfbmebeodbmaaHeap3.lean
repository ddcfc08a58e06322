/- Contracts of package heap: collect, Collect and Need, where no Bin is. -/
import Derived.Test.YtlkfbmebeodbmaaHeap2
set_option linter.unusedVariables false
namespace Go.Proofs.Ytlkfbmebeodbmaa
open Go.RowKit Go.Thr

theorem roomZ_ge {mst : Int} {u : Int} (h0 : 0 ≤ u) (h : u ≤ mst) : u ≤ roomZ mst u := by unfold roomZ; split <;> split <;> omega
theorem roomZ_le {mst : Int} {u : Int} : roomZ mst u ≤ mst := by unfold roomZ; split <;> split <;> omega
theorem goneOf_nil {W : List Int} {M L : List Nat} (h : ∀ a ∈ L, goneAt W a = []) : goneOf W M L = [] := by
  unfold goneOf
  rw [List.flatMap_eq_nil_iff]
  intro a ha
  exact h a (List.mem_filter.1 ha).1

section
variable (w : World) (h p : Nat) (sv v : Value) (d : Option Nat) (W : List Int) (z mst : Int) (H : Hp w h p sv v d W z mst)
variable (vr : Value) (dr : Option Nat) (R : List Int) (HR : Ws w vr dr R) (hne : ∀ g, d = some g → dr ≠ some g) (hRl : R.length ≤ 1000000000) (L : List Nat) (S : Snd W R L) (hg : ∀ a ∈ L, goneAt W a = [])
include H HR hne hRl S hg

set_option maxRecDepth 100000 in
set_option maxHeartbeats 1000000 in
theorem collect_any :
    Calls Try.prog 27 #[.pointer (some ⟨h, 0, none⟩), vr] w fun e w' => e = .returned (.bool true) ∧ ∃ M v', LiveL W R M ∧ Hp w' h p sv v' d (finW W R M (szO W) (nfO W)) (roomZ mst (finW W R M (szO W) (nfO W)).length) mst ∧ Ws w' vr dr (finR W R M (szO W) (nfO W)) ∧ Kept (fun k => foot2 d dr k ∨ k = p) w w' := by
  have hm0 := H.m0
  have hm1 := H.m1
  have hzm := H.zm
  have hH := Lib.hid H
  have hHR := Lib.hid HR
  have hS := Lib.hid S
  have hG := Lib.hid hg
  have hNE := Lib.hid hne
  have hph := H.ne
  have hfh : ¬ (foot2 d dr h ∨ h = p) := by
    rintro ((e | e) | e)
    · exact H.neD e.symm
    · exact HR.row.ne H.blk (by decide) h e.symm rfl
    · exact hph e
  have hfp : ¬ foot2 d dr p := by
    rintro (e | e)
    · exact H.ar.apart e.symm
    · exact HR.row.ne H.ar.blk (by decide) p e.symm rfl
  have HFH := Lib.hid (And.intro hfh hfp)
  have a0 := H.blk.cell 0 rfl
  clear H HR S hg hne hfh hfp
  go_enter Try.func27, Try.ntmps27
  go_wp2_with (go_at_call 42; refine (slide_any _ _ _ _ _ _ hH.out.ar _ _ _ hHR.out hNE.out hRl L hS.out).mono ?_; rintro e w1 ⟨M, vg, dg, v1, q, hLM, rfl, hA1, hR1, hRg, hdg, hk1⟩; rw [goneOf_nil hG.out] at hRg; obtain ⟨Ag, cg, rfl⟩ := hRg.shape; have hA1' := Lib.hid hA1; have hW1 := Lib.hid hR1; have hK1 := Lib.hid hk1; have hLM' := Lib.hid hLM; have hB1 := Lib.hid (hH.out.blk.kept hk1 HFH.out.1); have hb1 := hB1.out.lt; have hw1 := hk1.size; have hp1 := hA1.blk.lt; have hal := hA1.len; clear hA1 hR1 hk1 hLM hRg hdg)
  generalize hX : finW W R M (szO W) (nfO W) = X at *
  have HX := Lib.hid hX
  clear hX
  have hA2 := Lib.hid (hA1'.out.alloc (.cells #[.int .i64 X.length, .slice Ag 0 cg, .int .i64 q] 79))
  have hW2 := Lib.hid (hW1.out.alloc (.cells #[.int .i64 X.length, .slice Ag 0 cg, .int .i64 q] 79))
  have hB2 := Lib.hid (hB1.out.alloc (.cells #[.int .i64 X.length, .slice Ag 0 cg, .int .i64 q] 79))
  have hK2 := Lib.hid (hK1.out.alloc (.cells #[.int .i64 X.length, .slice Ag 0 cg, .int .i64 q] 79))
  have hr2 := Lib.hid (Blk.new w1 79 [.int .i64 X.length, .slice Ag 0 cg, .int .i64 q])
  generalize w1.alloc (.cells #[.int .i64 X.length, .slice Ag 0 cg, .int .i64 q] 79) = w2 at *
  generalize w1.heap.size = b at *
  clear a0
  have hrg := roomZ_ge (mst := mst) (u := X.length) (by omega) (by omega)
  have hrl := roomZ_le (mst := mst) (u := X.length)
  have hbp : b ≠ p := by
    intro e
    have := hr2.out; rw [e] at this
    exact absurd (this.inj hA2.out.blk).1 (by decide)
  go_loopw [23] (fun iv wx => iv = .int .i64 0 ∧ w2 = wx) (fun iv _ => 0)
  case atStart => exact ⟨rfl, rfl⟩
  case round =>
    obtain ⟨rfl, rfl⟩ := hrel
    have a0 := hB2.out.cell 0 rfl
    have r0 := hr2.out.cell 0 rfl
    go_wp2_with fail
    go_region_held3 (fun w' => w'.cell? ⟨h, 0, none⟩ = some (.pointer (some ⟨p, 0, none⟩)) ∧ w'.cell? ⟨b, 0, none⟩ = some (.int .i64 X.length))
      (first | go_keep | exact ⟨hB3.out.cell 0 rfl, hr3.out.cell 0 rfl⟩)
      (first | (go_at_call 23; refine (room_any _ _ _ _ _ _ ⟨hm0, hm1⟩ hB2.out.drew X.length (by omega)).mono ?_; rintro e w' ⟨rfl, rfl⟩) | (go_at_call 28; refine (cut_ok _ _ _ _ _ _ hA2.out.drew X.length (Nat.le_refl _) _ hrg (by omega)).mono ?_; rw [List.take_length]; rintro e w3 ⟨rfl, v3, hA3, hk3⟩; have hA3' := Lib.hid hA3; have hB3 := Lib.hid (hB2.out.drew.kept hk3 hph); have hr3 := Lib.hid (hr2.out.drew.kept hk3 hbp); have hK3 := Lib.hid hk3; clear hA3 hk3))
    go_wp2
    go_ret
    refine ⟨rfl, M, v3, hLM'.out, ?_, ?_, ?_⟩
    · rw [HX.out]; exact ⟨hB3.out, hA3'.out, hm0, hm1, hrl⟩
    · exact (hW2.out.drewN 1).kept hK3.out (fun g hg e => HFH.out.2 (by rw [← e]; exact .inr hg.symm))
    · exact Kept.trans (S := fun k => foot2 d dr k ∨ k = p) hK2.out.drew hK3.out (fun k hk e => .inr e)
end
end Go.Proofs.Ytlkfbmebeodbmaa
