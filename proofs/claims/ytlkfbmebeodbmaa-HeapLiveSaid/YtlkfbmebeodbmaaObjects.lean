/- Contracts of package arena: all objects. -/
import Derived.Test.YtlkfbmebeodbmaaObject
set_option linter.unusedVariables false
namespace Go.Proofs.Ytlkfbmebeodbmaa
open Go.RowKit Go.Thr

/-- From a place on stand just these objects. -/
def Segs (W : List Int) : Nat → List Nat → Prop
  | i, [] => i = W.length
  | i, a :: L => a = i ∧ ∃ h, obj W i = some h ∧ Segs W (i + 1 + h.size.toNat) L

theorem under_ints : Try.prog.underlying 45 = some (.slice 3) := Try.underlying45
def nats (L : List Nat) : List Value := L.map fun (n : Nat) => Value.int .i64 (n : Int)
theorem nats_append (L M : List Nat) : nats (L ++ M) = nats L ++ nats M := by simp [nats]
theorem nats_length (L : List Nat) : (nats L).length = L.length := by simp [nats]
theorem nats_get (L : List Nat) (i : Nat) (h : i < L.length) : (nats L)[i]? = some (.int .i64 ((L.getD i 0 : Nat) : Int)) := by simp [nats, List.getElem?_eq_getElem h, List.getD]

theorem Segs.le {W : List Int} : ∀ {L : List Nat} {i : Nat}, Segs W i L → i + L.length ≤ W.length
  | [], i, h => by simp only [Segs] at h; simp [h]
  | a :: L, i, ⟨_, h, ho, hs⟩ => by have := hs.le; simp; omega

set_option maxHeartbeats 400000 in
theorem objects_any (w : World) (p : Nat) (v : Value) (d : Option Nat) (W : List Int) (z : Int) (H : Ar w p v d W z) (L : List Nat) (hL : Segs W 0 L) :
    Calls Try.prog 37 #[.pointer (some ⟨p, 0, none⟩)] w fun e w' =>
    ∃ v1 d1, e = .returned (.tuple #[v1, .bool true]) ∧ Row w' 3 1 v1 d1 L.length (nats L) ∧ Only w w' ∧ (∀ b, d1 = some b → w.heap.size ≤ b) := by
  have hl := H.len
  have hm := H.max
  have hp := H.blk.lt
  have hH := Lib.hid H
  have hLl := hL.le
  have hLH := Lib.hid hL
  clear H hL
  go_enter Try.func37, Try.ntmps37
  go_wp2
  go_loopw [4, 5] (fun sv i wr => ∃ L1 L2 at_ d1, i = .int .i64 (at_ : Nat) ∧ L = L1 ++ L2 ∧ Segs W at_ L2 ∧ Row wr 3 1 sv d1 L1.length (nats L1) ∧ Only w wr ∧ (∀ b, d1 = some b → w.heap.size ≤ b)) (fun _ i _ => W.length - (intOf i).toNat)
  case atStart => exact ⟨[], L, 0, none, rfl, rfl, hLH.out, Row.nil _ _ _, Kept.refl _ _, by simp⟩
  case round =>
    obtain ⟨L1, L2, at_, d1, rfl, hLL, hS, hR, hk, hd⟩ := hrel
    have hA := Lib.hid (hH.out.only hk)
    have HLL := Lib.hid hLL
    clear hLL
    have hR' := Lib.hid hR
    obtain ⟨A1, cap1, hv1⟩ := hR.shape
    subst hv1
    cases L2 with
    | nil =>
      simp only [Segs] at hS
      subst hS
      go_wp2_with (go_at_call 26; refine (used_any _ _ _ _ _ _ hA.out).mono ?_; rintro e w' ⟨rfl, rfl⟩)
      go_ret2
      refine ⟨_, d1, rfl, ?_, hk, hd⟩
      rw [HLL.out, List.append_nil]; exact hR'.out
    | cons a L2 =>
      obtain ⟨rfl, h, ho, hS⟩ := hS
      have ho1 := obj_some ho
      have ho2 := obj_range ho
      have hS' := Lib.hid hS
      have hLe := hS.le
      clear hS
      have HO := Lib.hid ho
      have hlt := ho1.2.1
      have hsz := ho1.2.2.2.2
      have hz0 := ho2.2.2.1
      have hz1 := ho2.2.2.2.1
      clear ho ho1 ho2
      obtain ⟨k, z', t, ng⟩ := h
      simp only at hsz hz0 hz1
      have hLn : L1.length + 1 ≤ W.length := by
        have := congrArg List.length HLL.out; simp at this; omega
      go_wp2_with (first | (go_at_call 26; refine (used_any _ _ _ _ _ _ hA.out).mono ?_; rintro e w' ⟨rfl, rfl⟩) | (go_at_call 38; refine (object_some _ _ _ _ _ _ hA.out _ _ HO.out).mono ?_; rintro e w1 ⟨rfl, hk1⟩; have hR1 := hR'.out.kept hk1 (fun _ _ h => h)) | (at_builtin; go_loud (refine wpList_push1 rfl _ _ _ 3 (.int .i64 0) 8 rfl under_ints info_int rfl (by decide) _ d1 L1.length (nats L1) (.int .i64 a) rfl _ (by simp) rfl rfl (by exact hR1.alloc _) (by omega) ?_; intro v2 d2 w2 hR2 hk2 hd2; have hB2 := (Blk.new w1 36 [.int .i64 k, .int .i64 z', .int .i64 t, .bool ng]).kept hk2 (fun e => absurd (hR1.lt e.symm) (Nat.lt_irrefl _)); have b1 := hB2.cell 1 rfl; obtain ⟨A2, cap2, rfl⟩ := hR2.shape)))
      go_roundw
      case rel =>
        refine ⟨L1 ++ [a], L2, a + 1 + z'.toNat, d2, ?_, ?_, hS'.out, ?_, ?_, ?_⟩
        · exact congrArg (Value.int .i64) (by simp; omega)
        · rw [HLL.out]; simp
        · rw [nats_append, List.length_append]; exact hR2
        · exact ((hk.then hk1).alloc _).trans hk2 (fun x hx he => by have := hd x he.symm; omega)
        · intro b hb
          rcases hd2 with h | ⟨c, hc, hle⟩
          · exact hd b (h ▸ hb)
          · have h1 := hk.size; have h2 := hk1.size; rw [hc] at hb; simp at hb hle; omega
      case measure => simp [intOf]; omega
end Go.Proofs.Ytlkfbmebeodbmaa
