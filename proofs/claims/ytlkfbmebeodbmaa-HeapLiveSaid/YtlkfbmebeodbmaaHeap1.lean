/- Contracts of package heap: what only reads, and New. -/
import Derived.Test.YtlkfbmebeodbmaaSlide
import Derived.BigQuiet
set_option linter.unusedVariables false
namespace Go.Proofs.Ytlkfbmebeodbmaa
open Go.RowKit Go.Thr

/-- The heap at h: its arena at p, its store, its words, its size, the most it may have. -/
structure Hp (w : World) (h p : Nat) (sv v : Value) (d : Option Nat) (W : List Int) (z mst : Int) : Prop where
  blk : Blk w h 56 [.pointer (some ⟨p, 0, none⟩), sv, .int .i64 mst, .bool false]
  ar : Ar w p v d W z
  m0 : 0 ≤ mst
  m1 : mst ≤ 1048576
  zm : z ≤ mst

/-- The capacity for so many words. -/
def roomZ (mst n : Int) : Int := if 2 * n ≤ 32 then (if 32 ≤ mst then 32 else mst) else (if 2 * n ≤ mst then 2 * n else mst)

section
variable {w w' : World} {h p : Nat} {sv v : Value} {d : Option Nat} {W : List Int} {z mst : Int}
theorem Hp.ne (H : Hp w h p sv v d W z mst) : h ≠ p := by
  rintro rfl
  exact absurd (H.blk.inj H.ar.blk).1 (by decide)
theorem Hp.neD (H : Hp w h p sv v d W z mst) : d ≠ some h := fun e => H.ar.ws.row.ne H.blk (by decide) h e rfl
theorem Hp.kept {S : Nat → Prop} (H : Hp w h p sv v d W z mst) (k : Kept S w w') (h1 : ¬ S h) (h2 : ¬ S p) (h3 : ∀ g, d = some g → ¬ S g) : Hp w' h p sv v d W z mst :=
  ⟨H.blk.kept k h1, H.ar.kept k h2 h3, H.m0, H.m1, H.zm⟩
theorem Hp.only (H : Hp w h p sv v d W z mst) (k : Only w w') : Hp w' h p sv v d W z mst := H.kept k (fun h => h) (fun h => h) (fun _ _ h => h)
theorem Hp.drew (H : Hp w h p sv v d W z mst) : Hp w.drew h p sv v d W z mst := ⟨H.blk.drew, H.ar.drew, H.m0, H.m1, H.zm⟩
theorem Hp.alloc (H : Hp w h p sv v d W z mst) (o : Obj) : Hp (w.alloc o) h p sv v d W z mst := H.only ((Kept.refl _ w).alloc o)

theorem room_any (w : World) (h : Nat) (c0 c1 c3 : Value) (mst : Int) (hm : 0 ≤ mst ∧ mst ≤ 1048576) (HB : Blk w h 56 [c0, c1, .int .i64 mst, c3]) (n : Int) (hn : 0 ≤ n ∧ n ≤ 4194304) :
    Calls Try.prog 23 #[.pointer (some ⟨h, 0, none⟩), .int .i64 n] w fun e w' => e = .returned (.int .i64 (roomZ mst n)) ∧ w = w' := by
  have c2 := HB.cell 2 rfl
  obtain ⟨hm0, hm1⟩ := hm
  obtain ⟨hn0, hn1⟩ := hn
  clear HB
  go_enter Try.func23, Try.ntmps23
  go_wp2
  all_goals
    go_ret
    refine ⟨congrArg (fun t => Ending.returned (.int .i64 t)) (?_ : _ = roomZ mst n), rfl⟩
    unfold roomZ
    repeat' split
    all_goals omega

theorem alive_any (w : World) (h : Nat) (p : Nat) (c1 c2 : Value) (HB : Blk w h 56 [.pointer (some ⟨p, 0, none⟩), c1, c2, .bool false]) :
    Calls Try.prog 24 #[.pointer (some ⟨h, 0, none⟩)] w fun e w' => e = .returned (.bool true) ∧ w = w' := by
  have c0 := HB.cell 0 rfl
  have c3 := HB.cell 3 rfl
  go_enter Try.func24, Try.ntmps24
  go_wp2
  go_ret
  exact ⟨rfl, rfl⟩

theorem harena_any (w : World) (h : Nat) (p : Nat) (c1 c2 c3 : Value) (HB : Blk w h 56 [.pointer (some ⟨p, 0, none⟩), c1, c2, c3]) :
    Calls Try.prog 21 #[.pointer (some ⟨h, 0, none⟩)] w fun e w' => e = .returned (.pointer (some ⟨p, 0, none⟩)) ∧ w = w' := by
  have c0 := HB.cell 0 rfl
  go_enter Try.func21, Try.ntmps21
  go_wp2
  go_ret
  exact ⟨rfl, rfl⟩

theorem hused_any (H : Hp w h p sv v d W z mst) :
    Calls Try.prog 11 #[.pointer (some ⟨h, 0, none⟩)] w fun e w' => e = .returned (.int .i64 W.length) ∧ w = w' := by
  have hH := Lib.hid H
  clear H
  go_enter Try.func11, Try.ntmps11
  go_wp2_with (first | (go_at_call 21; refine (harena_any _ _ _ _ _ _ hH.out.blk).mono ?_; rintro e w' ⟨rfl, rfl⟩) | (go_at_call 26; refine (used_any _ _ _ _ _ _ hH.out.ar).mono ?_; rintro e w' ⟨rfl, rfl⟩))
  go_ret
  exact ⟨rfl, rfl⟩

theorem hcap_any (H : Hp w h p sv v d W z mst) :
    Calls Try.prog 12 #[.pointer (some ⟨h, 0, none⟩)] w fun e w' => e = .returned (.int .i64 z) ∧ w = w' := by
  have hH := Lib.hid H
  clear H
  go_enter Try.func12, Try.ntmps12
  go_wp2_with (first | (go_at_call 21; refine (harena_any _ _ _ _ _ _ hH.out.blk).mono ?_; rintro e w' ⟨rfl, rfl⟩) | (go_at_call 25; refine (size_any _ _ _ _ _ _ hH.out.ar).mono ?_; rintro e w' ⟨rfl, rfl⟩))
  go_ret
  exact ⟨rfl, rfl⟩
end

theorem hnew_any (w : World) (mst : Int) (hm : 0 ≤ mst ∧ mst ≤ 1048576) (sv : Value) (hsv : ∃ a, sv = .pointer (some a)) :
    Calls Try.prog 8 #[.int .i64 mst, sv] w fun e w' => ∃ p, e = .returned (.pointer (some ⟨w.heap.size, 0, none⟩)) ∧ Hp w' w.heap.size p sv (.slice none 0 0) none [] (roomZ mst 0) mst ∧ Only w w' ∧ w.heap.size < p := by
  have hB := Lib.hid (Blk.new w 56 [.pointer none, sv, .int .i64 mst, .bool false])
  obtain ⟨a, rfl⟩ := hsv
  have hr : 0 ≤ roomZ mst 0 ∧ roomZ mst 0 ≤ 1048576 := by unfold roomZ; omega
  have hm0 := hm.1
  have hm1 := hm.2
  clear hm
  go_enter Try.func8, Try.ntmps8
  go_wp2_with (first | (go_at_call 23; refine (room_any _ _ _ _ _ _ ⟨hm0, hm1⟩ hB.out 0 (by omega)).mono ?_; rintro e w' ⟨rfl, rfl⟩) | (go_at_call 22; refine (new_any _ _ hr).mono ?_; rintro e w2 ⟨rfl, hA, hk2, hw2⟩; have hA' := Lib.hid hA; have hK2 := Lib.hid hk2; have hB2 := Lib.hid (hB.out.kept hk2 (fun h => h)); have b0 := hB2.out.cell 0 rfl; have g0 := hB2.out.frozen 0; have hb := hB2.out.lt))
  go_ret
  have hX : ∀ X : Obj, (w.alloc X).heap.size = w.heap.size + 1 := fun X => by simp
  have hKF : Kept (fun k => k = w.heap.size) w2 (w2.setCell ⟨w.heap.size, 0, none⟩ (.pointer (some ⟨w.heap.size + 1, 0, none⟩))) := Kept.setCell (S := fun k => k = w.heap.size) (Kept.refl _ w2) (p := ⟨w.heap.size, 0, none⟩) (.inl rfl) _
  rw [hX] at hA'
  exact ⟨w.heap.size + 1, rfl, ⟨hB2.out.set 0 _, hA'.out.kept hKF (by omega) (by intro g hg; cases hg), hm0, hm1, by unfold roomZ; omega⟩, Kept.trans (Only.of_alloc hK2.out) hKF (fun k hk h => by omega), by omega⟩
end Go.Proofs.Ytlkfbmebeodbmaa
