/- Contracts of package mark: what is reached. -/
import Derived.Test.YtlkfbmebeodbmaaMark
set_option linter.unusedVariables false
namespace Go.Proofs.Ytlkfbmebeodbmaa
open Go.RowKit Go.Thr

theorem words_one {W : List Int} : ∀ u ∈ words W, u.oneCell' = true := by
  intro u hu
  simp only [words, List.mem_map] at hu
  obtain ⟨x, _, rfl⟩ := hu
  rfl

set_option maxRecDepth 100000 in
theorem clone_words (w : World) (v : Value) (d : Option Nat) (R : List Int) (H : Ws w v d R) (hR : R.length ≤ 1000000000) :
    Calls Try.prog 66 #[v] w fun e w' => ∃ v1 d1, e = .returned v1 ∧ Ws w' v1 d1 R ∧ Only w w' ∧ (∀ b, d1 = some b → w.heap.size ≤ b) := by
  have hH := Lib.hid H
  have he := fun (w : World) (a : Option Addr) (l c : Nat) => Lib.run_eql_slice_nil (P := Try.prog) w 29 32 a l c 0 0 under_words
  rcases H.row.1.2 with ⟨hv, h0⟩ | ⟨g, cap, cur, hv, hb, hg, hc, _⟩
  · obtain rfl : R = [] := List.eq_nil_of_length_eq_zero h0
    subst hv
    clear H
    go_enter Try.func66, Try.ntmps66
    go_wp2
    go_ret
    exact ⟨_, none, rfl, ⟨Row.nil _ _ _, hH.out.rng⟩, Kept.refl _ _, by simp⟩
  · subst hv
    have hX := H.row
    have hm := H.row.max
    clear H
    go_enter Try.func66, Try.ntmps66
    go_wp2_with (at_builtin; refine wpList_append_row rfl _ _ _ 32 (.int .u64 0) 1 8 rfl under_words info_word rfl (by decide) (by decide) (.slice (some ⟨w.heap.size, 0, none⟩) 0 0) (some w.heap.size) 0 [] rfl (by exact Row.made w [] 0 0 32 1 (by decide) (by decide) rfl) g cap d R.length (words R) rfl (by exact hX.alloc _) words_one (by omega) ?_; intro v1 d1 w1 hR1 hk1 hd1; obtain ⟨A1, cap1, rfl⟩ := hR1.shape)
    go_ret
    refine ⟨_, d1, rfl, ⟨?_, hH.out.rng⟩, ?_, ?_⟩
    · simpa using hR1
    · exact ((Kept.refl _ w).alloc _).trans hk1 (fun x hx he => by simp at he; omega)
    · intro b hb
      rcases hd1 with h | ⟨c, h, hle⟩
      · rw [h] at hb; simp at hb; omega
      · rw [h] at hb; simp at hb hle; omega

/-- Closed under what is pointed at. -/
def Clo (W R : List Int) (S : Nat → Prop) : Prop :=
  (∀ x ∈ R, tg x = 5 → S (vl x).toNat) ∧ ∀ a, S a → ∀ h, obj W a = some h → ∀ k : Nat, (k : Int) < fieldsOf h → tg (W.getD (a + 1 + k) 0) = 5 → S (vl (W.getD (a + 1 + k) 0)).toNat
/-- Reached. -/
def Rch (W R : List Int) (a : Nat) : Prop := ∀ S : Nat → Prop, Clo W R S → S a
theorem Rch.root {W R : List Int} {x : Int} (hx : x ∈ R) (ht : tg x = 5) : Rch W R (vl x).toNat := fun S hS => hS.1 x hx ht
theorem Rch.step {W R : List Int} {a : Nat} (ha : Rch W R a) {h : Hd} (ho : obj W a = some h) {k : Nat} (hk : (k : Int) < fieldsOf h) (ht : tg (W.getD (a + 1 + k) 0) = 5) : Rch W R (vl (W.getD (a + 1 + k) 0)).toNat :=
  fun S hS => hS.2 a (ha S hS) h ho k hk ht
theorem Rch.clo (W R : List Int) : Clo W R (Rch W R) := ⟨fun _ hx ht => .root hx ht, fun _ ha _ ho _ hk ht => ha.step ho hk ht⟩
theorem Snd.clo {W R : List Int} {L : List Nat} (h : Snd W R L) : Clo W R (· ∈ L) :=
  ⟨fun x hx ht => ((h.roots x hx).2.2 ht).2, fun a ha hd ho k hk ht => (((h.fields a ha hd ho).2 k hk).2.2 ht).2⟩
theorem Snd.sub {W R : List Int} {L : List Nat} (h : Snd W R L) {a : Nat} (ha : Rch W R a) : a ∈ L := ha _ h.clo
/-- The places of all that is reached. -/
def LiveL (W R : List Int) (M : List Nat) : Prop := M.Pairwise (· < ·) ∧ ∀ a, a ∈ M ↔ Rch W R a

/-- How many places are not marked. -/
def cnt (B : List Bool) : Nat := (B.filter (!·)).length
theorem cnt_le (B : List Bool) : cnt B ≤ B.length := List.length_filter_le _ _
theorem cnt_set : ∀ (B : List Bool) (i : Nat), i < B.length → B.getD i false = false → cnt (B.set i true) + 1 = cnt B
  | [], _, h, _ => by simp at h
  | b :: B, 0, _, h => by
    have : b = false := by simpa using h
    subst this; simp [cnt]
  | b :: B, i + 1, h, hb => by
    have := cnt_set B i (by simpa using h) (by simpa using hb)
    cases b <;> simp [cnt] at this ⊢ <;> omega
theorem cnt_replicate (n : Nat) : cnt (List.replicate n false) = n := by simp [cnt]

def Cov (B : List Bool) (T : List Int) (j : Nat) : Prop := B.getD j false = true ∨ ∃ y ∈ T, tg y = 5 ∧ (vl y).toNat = j
structure LInv (W R : List Int) (L : List Nat) (B : List Bool) (T : List Int) : Prop where
  len : B.length = W.length
  seen : ∀ i, B.getD i false = true → Rch W R i
  todo : ∀ x ∈ T, SndW L x ∧ (tg x = 5 → Rch W R (vl x).toNat)
  roots : ∀ x ∈ R, tg x = 5 → Cov B T (vl x).toNat
  fields : ∀ a, B.getD a false = true → ∀ h, obj W a = some h → ∀ k : Nat, (k : Int) < fieldsOf h → tg (W.getD (a + 1 + k) 0) = 5 → Cov B T (vl (W.getD (a + 1 + k) 0)).toNat

theorem getD_set_true (B : List Bool) (i j : Nat) (hi : i < B.length) : (B.set i true).getD j false = true ↔ (j = i ∨ B.getD j false = true) := by
  rw [List.getD_eq_getElem?_getD, List.getElem?_set]
  by_cases e : i = j
  · subst e; simp [hi]
  · simp [e, Ne.symm e, List.getD_eq_getElem?_getD]

theorem LInv.start {W R : List Int} {L : List Nat} (hS : Snd W R L) : LInv W R L (List.replicate W.length false) R := by
  have hf : ∀ i, (List.replicate W.length false).getD i false = true → False := by
    intro i h
    rw [List.getD_eq_getElem?_getD, List.getElem?_replicate] at h
    split at h <;> simp at h
  exact ⟨by simp, fun i h => (hf i h).elim, fun x hx => ⟨hS.roots x hx, fun ht => .root hx ht⟩, fun x hx ht => .inr ⟨x, hx, ht, rfl⟩, fun a h => (hf a h).elim⟩
theorem Cov.pop {B : List Bool} {T : List Int} {x : Int} (hx : tg x ≠ 5 ∨ B.getD (vl x).toNat false = true) {j : Nat} (h : Cov B (T ++ [x]) j) : Cov B T j := by
  rcases h with h | ⟨y, hy, ht, he⟩
  · exact .inl h
  · rcases List.mem_append.1 hy with hy | hy
    · exact .inr ⟨y, hy, ht, he⟩
    · simp at hy; subst hy
      rcases hx with hx | hx
      · exact absurd ht hx
      · exact .inl (he ▸ hx)
theorem LInv.pop {W R : List Int} {L : List Nat} {B : List Bool} {T : List Int} {x : Int} (H : LInv W R L B (T ++ [x])) (hx : tg x ≠ 5 ∨ B.getD (vl x).toNat false = true) : LInv W R L B T :=
  ⟨H.len, H.seen, fun y hy => H.todo y (by simp [hy]), fun y hy ht => (H.roots y hy ht).pop hx, fun a ha h ho k hk ht => (H.fields a ha h ho k hk ht).pop hx⟩
/-- The words in an object's fields. -/
def fieldW (W : List Int) (a n : Nat) : List Int := (List.range n).map fun k => W.getD (a + 1 + k) 0
theorem LInv.open {W R : List Int} {L : List Nat} {B : List Bool} {T : List Int} {x : Int} (hS : Snd W R L) (H : LInv W R L B (T ++ [x])) (hx : tg x = 5) (hlt : (vl x).toNat < W.length) {h : Hd} (ho : obj W ((vl x).toNat : Nat) = some h) :
    LInv W R L (B.set (vl x).toNat true) (T ++ fieldW W (vl x).toNat (fieldsOf h).toNat) := by
  have hl : (vl x).toNat < B.length := by rw [H.len]; exact hlt
  have hT := (H.todo x (by simp)).2 hx
  have hxs := ((H.todo x (by simp)).1.2.2 hx).2
  have hcov : ∀ j, Cov B (T ++ [x]) j → Cov (B.set (vl x).toNat true) (T ++ fieldW W (vl x).toNat (fieldsOf h).toNat) j := by
    rintro j (hj | ⟨y, hy, ht, he⟩)
    · exact .inl ((getD_set_true B _ j hl).2 (.inr hj))
    · rcases List.mem_append.1 hy with hy | hy
      · exact .inr ⟨y, by simp [hy], ht, he⟩
      · simp at hy; subst hy; exact .inl ((getD_set_true B _ j hl).2 (.inl he.symm))
  refine ⟨by simp [H.len], ?_, ?_, fun y hy ht => hcov _ (H.roots y hy ht), ?_⟩
  · intro i hi
    rcases (getD_set_true B _ i hl).1 hi with rfl | hi
    · exact hT
    · exact H.seen i hi
  · intro y hy
    rcases List.mem_append.1 hy with hy | hy
    · exact H.todo y (by simp [hy])
    · simp only [fieldW, List.mem_map, List.mem_range] at hy
      obtain ⟨k, hk, rfl⟩ := hy
      have hk' : (k : Int) < fieldsOf h := by omega
      exact ⟨(hS.fields _ hxs h ho).2 k hk', fun ht => hT.step ho hk' ht⟩
  · intro a ha h' ho' k hk ht
    rcases (getD_set_true B _ a hl).1 ha with rfl | ha
    · rw [ho] at ho'; cases ho'
      refine .inr ⟨_, List.mem_append.2 (.inr ?_), ht, rfl⟩
      simp only [fieldW, List.mem_map, List.mem_range]
      exact ⟨k, by omega, rfl⟩
    · exact hcov _ (H.fields a ha h' ho' k hk ht)
theorem Cov.nil {B : List Bool} {j : Nat} (h : Cov B [] j) : B.getD j false = true := by
  rcases h with h | ⟨y, hy, _⟩
  · exact h
  · cases hy
theorem LInv.done {W R : List Int} {L : List Nat} {B : List Bool} (H : LInv W R L B []) (i : Nat) : B.getD i false = true ↔ Rch W R i :=
  ⟨H.seen i, fun h => h (fun a => B.getD a false = true) ⟨fun x hx ht => (H.roots x hx ht).nil, fun a ha h' ho k hk ht => (H.fields a ha h' ho k hk ht).nil⟩⟩
theorem LInv.live {W R : List Int} {L : List Nat} {B : List Bool} (H : LInv W R L B []) : LiveL W R ((List.range W.length).filter fun i => B.getD i false) := by
  refine ⟨List.Pairwise.filter _ List.pairwise_lt_range, fun a => ?_⟩
  rw [List.mem_filter, ← H.done a, List.mem_range]
  refine ⟨fun h => h.2, fun h => ⟨?_, h⟩⟩
  apply Classical.byContradiction
  intro hn
  rw [List.getD_eq_getElem?_getD, List.getElem?_eq_none (by rw [H.len]; omega)] at h
  simp at h
end Go.Proofs.Ytlkfbmebeodbmaa
