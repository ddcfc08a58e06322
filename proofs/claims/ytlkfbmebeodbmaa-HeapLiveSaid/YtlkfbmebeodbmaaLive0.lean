/- The statement HeapLive: the contracts at a heap of tuples of three. -/
import Derived.Test.YtlkfbmebeodbmaaGives
set_option linter.unusedVariables false
namespace Go.Proofs.Ytlkfbmebeodbmaa
open Go.RowKit Go.Thr

def Three (l : List (Nat × Bool)) : Prop := ∀ e ∈ l, e.1 = 3
theorem Three.len {l : List (Nat × Bool)} (h : Three l) : (tupW l).length = 4 * l.length := by
  induction l with
  | nil => rfl
  | cons e l ih =>
    have h1 := ih (fun x hx => h x (by simp [hx]))
    have h2 := h e (by simp)
    rw [tupW_cons]; simp; omega
theorem Three.keep {l : List (Nat × Bool)} (h : Three l) : Three (keep l) := fun e he => h e (List.mem_filter.1 he).1
theorem Three.snoc {l : List (Nat × Bool)} (h : Three l) (b : Bool) : Three (l ++ [(3, b)]) := by
  intro e he
  rcases List.mem_append.1 he with he | he
  · exact h e he
  · rw [List.mem_singleton.1 he]
theorem keep_keep (l : List (Nat × Bool)) : keep (keep l) = keep l := keep_all (keep_true l)
theorem keep_le (l : List (Nat × Bool)) : (keep l).length ≤ l.length := List.length_filter_le _ _

theorem hneed3 (w : World) (h p : Nat) (sv v : Value) (d : Option Nat) (z mst : Int) (vr : Value) (dr : Option Nat) (l : List (Nat × Bool)) (H : HSt w h p sv v d z mst vr dr l) (h3 : Three l) (n : Int) (hn : 0 ≤ n) (hn1 : n ≤ 1048576) :
    Calls Try.prog 9 #[.pointer (some ⟨h, 0, none⟩), .int .i64 n, vr] w fun e w' => ∃ l' z' v', e = .returned (.bool (decide (4 * ((posR l 0).length : Int) + n ≤ mst))) ∧ HSt w' h p sv v' d z' mst vr dr l' ∧ Three l' ∧ (posR l' 0).length = (posR l 0).length ∧ Kept (fun k => foot2 d dr k ∨ k = p) w w' ∧ (4 * ((posR l 0).length : Int) + n ≤ mst → n ≤ z' - (tupW l').length) := by
  have hlen := H.len
  have hp1 := posR_len l 0
  have hk1 := keep_le l
  have e1 := h3.len
  have e2 := h3.keep.len
  refine (hneed_any w h p sv v d z mst vr dr l H n hn hn1).mono ?_
  rintro e w' ⟨ok, l', z', v', rfl, hH, hk, hc⟩
  rcases hc with ⟨h1, rfl, rfl, rfl⟩ | ⟨h1, rfl, ⟨h2, rfl, rfl⟩ | ⟨h2, rfl, rfl⟩⟩
  · exact ⟨l', z', v', by rw [decide_eq_true (by omega)], hH, h3, rfl, hk, fun _ => h1⟩
  · refine ⟨keep l, _, v', by rw [decide_eq_true (by omega)], hH, h3.keep, by rw [posR_len, posR_len, keep_keep], hk, fun _ => ?_⟩
    have := roomZ_ge (mst := mst) (u := (tupW (keep l)).length + n) (by omega) (by omega); omega
  · exact ⟨keep l, _, v', by rw [decide_eq_false (by omega)], hH, h3.keep, by rw [posR_len, posR_len, keep_keep], hk, fun _ => by omega⟩

theorem ws_three (w : World) : Ws (w.alloc (.cells #[.int .u64 0, .int .u64 0, .int .u64 0] 32)) (.slice (some ⟨w.heap.size, 0, none⟩) 3 3) (some w.heap.size) (List.replicate 3 0) := by
  have h := Row.made w [.int .u64 0, .int .u64 0, .int .u64 0] 3 3 32 1 (Nat.le_refl _) (by decide) rfl
  exact ⟨h, fun x hx => by rw [(List.mem_replicate.1 hx).2]; decide⟩

theorem skip_root {w5 : World} {h p : Nat} {sv v5 vr : Value} {d5 dr : Option Nat} {z n : Int} {l : List (Nat × Bool)} {k : Nat} (hH5 : Hp w5 h p sv v5 d5 (tupW (l ++ [(k, false)])) z n) (hW : Ws w5 vr dr (ptrs (posR l 0))) (hne5 : ∀ g, d5 = some g → dr ≠ some g) (hsm : Small l) (hk : k < 1048575) : HSt w5 h p sv v5 d5 z n vr dr (l ++ [(k, false)]) :=
  ⟨hH5, by rw [posR_snoc]; simpa using hW, hne5, small_snoc hsm hk⟩

/-- The state between two rounds: everything of the heap is new. -/
structure LSt (w wx : World) (h p : Nat) (sv : Value) (z mst : Int) (vr : Value) (l : List (Nat × Bool)) : Prop where
  ex : ∃ v d dr, HSt wx h p sv v d z mst vr dr l ∧ (∀ g, d = some g → w.heap.size ≤ g) ∧ (∀ g, dr = some g → w.heap.size ≤ g)
  three : Three l
  only : Only w wx
  hh : w.heap.size ≤ h
  hp : w.heap.size ≤ p
end Go.Proofs.Ytlkfbmebeodbmaa
