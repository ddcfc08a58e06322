/- Plain law: a heap of tuples that hold no place, of which some are roots. -/
import Derived.Test.YtlkfbmebeodbmaaHeap3
set_option linter.unusedVariables false
namespace Go.Proofs.Ytlkfbmebeodbmaa
open Go.RowKit Go.Thr

def hdT (k : Nat) : Int := mkHd ⟨1, k, 1 + (k : Int), false⟩
/-- The tuples: the size of each, and is it a root. -/
def tupW (l : List (Nat × Bool)) : List Int := l.flatMap fun e => hdT e.1 :: List.replicate e.1 0
def posA : List (Nat × Bool) → Nat → List Nat
  | [], _ => []
  | e :: l, i => i :: posA l (i + 1 + e.1)
def posR : List (Nat × Bool) → Nat → List Nat
  | [], _ => []
  | e :: l, i => if e.2 then i :: posR l (i + 1 + e.1) else posR l (i + 1 + e.1)
def ptrs (A : List Nat) : List Int := A.map fun (a : Nat) => mkw 5 (a : Int)
def keep (l : List (Nat × Bool)) : List (Nat × Bool) := l.filter (·.2)
def Small (l : List (Nat × Bool)) : Prop := ∀ e ∈ l, e.1 < 1048575

theorem hdT_ok {k : Nat} (hk : k < 1048575) : isHd (hdT k) = true ∧ hdOf (hdT k) = ⟨1, k, 1 + k, false⟩ ∧ tg (hdT k) = 6 := by
  have hg := mkHd_good (k := 1) (n := k) (t := 1 + k) (g := false) (by omega)
  have e : hdT k = mkw 6 (1 + (k : Int) * 8 + (1 + (k : Int)) * 8388608) := by unfold hdT; rw [hg]; simp
  have h1 : tg (hdT k) = 6 := by rw [e]; exact tg_mkw (by omega) (by omega)
  have h2 : vl (hdT k) = 1 + (k : Int) * 8 + (1 + (k : Int)) * 8388608 := by rw [e]; exact vl_mkw (by omega) (by omega) (by omega) (by omega)
  refine ⟨?_, ?_, h1⟩
  · simp only [isHd, decide_eq_true_eq]; rw [h2]; exact ⟨h1, by omega, by omega⟩
  · unfold hdOf
    rw [h2]
    have a1 : (1 + (k : Int) * 8 + (1 + (k : Int)) * 8388608) % 4 = 1 := by omega
    have a2 : (1 + (k : Int) * 8 + (1 + (k : Int)) * 8388608) / 8 % 1048576 = k := by
      have : (1 + (k : Int) * 8 + (1 + (k : Int)) * 8388608) / 8 = k + (1 + (k : Int)) * 1048576 := by omega
      rw [this]; omega
    have a3 : (1 + (k : Int) * 8 + (1 + (k : Int)) * 8388608) / 8388608 % 1048576 = 1 + k := by
      have : (1 + (k : Int) * 8 + (1 + (k : Int)) * 8388608) / 8388608 = 1 + k := by omega
      rw [this]; omega
    have a4 : (1 + (k : Int) * 8 + (1 + (k : Int)) * 8388608) / 4 % 2 = 0 := by omega
    rw [a1, a2, a3, a4]; rfl

theorem tupW_cons (e : Nat × Bool) (l : List (Nat × Bool)) : tupW (e :: l) = (hdT e.1 :: List.replicate e.1 0) ++ tupW l := rfl
theorem tupW_snoc (l : List (Nat × Bool)) (e : Nat × Bool) : tupW (l ++ [e]) = tupW l ++ hdT e.1 :: List.replicate e.1 0 := by simp [tupW]
theorem tup_tag {l : List (Nat × Bool)} (hs : Small l) (a : Nat) : tg ((tupW l).getD a 0) ≠ 5 := by
  rw [List.getD_eq_getElem?_getD]
  cases h : (tupW l)[a]? with
  | none => decide
  | some x =>
    have hx := List.mem_of_getElem? h
    simp only [tupW, List.mem_flatMap] at hx
    obtain ⟨e, he, hx⟩ := hx
    rcases List.mem_cons.1 hx with hx | hx
    · show tg x ≠ 5
      rw [hx, (hdT_ok (hs e he)).2.2]; decide
    · show tg x ≠ 5
      rw [(List.mem_replicate.1 hx).2]; decide

theorem obj_at {P T : List Int} {k : Nat} (hk : k < 1048575) (hT : k ≤ T.length) : obj (P ++ hdT k :: T) (P.length : Nat) = some ⟨1, k, 1 + k, false⟩ := by
  obtain ⟨h1, h2, h3⟩ := hdT_ok hk
  have e : (P ++ hdT k :: T).getD ((P.length : Int)).toNat 0 = hdT k := by
    rw [Int.toNat_natCast, List.getD_eq_getElem?_getD, List.getElem?_append_right (Nat.le_refl _), Nat.sub_self, List.getElem?_cons_zero, Option.getD_some]
  unfold obj
  rw [e, h1, h2, if_pos]
  simp only [List.length_append, List.length_cons]
  exact ⟨by omega, by omega, trivial, by omega⟩
theorem obj_tup {P : List Int} {e : Nat × Bool} {l : List (Nat × Bool)} (hk : e.1 < 1048575) : obj (P ++ tupW (e :: l)) (P.length : Nat) = some ⟨1, e.1, 1 + e.1, false⟩ := by
  rw [tupW_cons, List.cons_append]; exact obj_at hk (by simp)

theorem step_eq (P : List Int) (e : Nat × Bool) (l : List (Nat × Bool)) : P ++ tupW (e :: l) = (P ++ (hdT e.1 :: List.replicate e.1 0)) ++ tupW l := by rw [tupW_cons, List.append_assoc]
theorem step_len (P : List Int) (e : Nat × Bool) : (P ++ (hdT e.1 :: List.replicate e.1 0)).length = P.length + 1 + e.1 := by simp; omega

theorem tup_segs : ∀ (l : List (Nat × Bool)), Small l → ∀ P : List Int, Segs (P ++ tupW l) P.length (posA l P.length)
  | [], _, P => by simp [Segs, posA, tupW]
  | e :: l, hs, P => by
    refine ⟨rfl, _, obj_tup (hs e (by simp)), ?_⟩
    have h := tup_segs l (fun x hx => hs x (by simp [hx])) (P ++ (hdT e.1 :: List.replicate e.1 0))
    rw [← step_eq, step_len] at h
    simpa using h

theorem posR_sub : ∀ (l : List (Nat × Bool)) (i : Nat), ∀ a ∈ posR l i, a ∈ posA l i ∧ i ≤ a
  | [], _, _, h => by cases h
  | e :: l, i, a, h => by
    have ih := posR_sub l (i + 1 + e.1)
    simp only [posR] at h
    split at h
    · rcases List.mem_cons.1 h with rfl | h
      · simp [posA]
      · have := ih a h; simp only [posA, List.mem_cons]; exact ⟨.inr this.1, by omega⟩
    · have := ih a h; simp only [posA, List.mem_cons]; exact ⟨.inr this.1, by omega⟩
theorem posR_sorted : ∀ (l : List (Nat × Bool)) (i : Nat), (posR l i).Pairwise (· < ·)
  | [], _ => .nil
  | e :: l, i => by
    simp only [posR]; split
    · exact .cons (fun a ha => by have := (posR_sub l _ a ha).2; omega) (posR_sorted l _)
    · exact posR_sorted l _
theorem posA_lt : ∀ (l : List (Nat × Bool)) (i : Nat), ∀ a ∈ posA l i, a < i + (tupW l).length
  | [], _, _, h => by cases h
  | e :: l, i, a, h => by
    have e1 : (tupW (e :: l)).length = 1 + e.1 + (tupW l).length := by rw [tupW_cons]; simp; omega
    rcases List.mem_cons.1 h with rfl | h
    · omega
    · have := posA_lt l _ a h; omega

theorem getD_after (P : List Int) (x : Int) (n k : Nat) (T : List Int) (hk : k < n) : (P ++ x :: (List.replicate n 0 ++ T)).getD (P.length + 1 + k) 0 = 0 := by
  rw [List.getD_eq_getElem?_getD, List.getElem?_append_right (by omega), show P.length + 1 + k - P.length = k + 1 from by omega, List.getElem?_cons_succ, List.getElem?_append_left (by simpa using hk), List.getElem?_replicate, if_pos hk]
  rfl
theorem tup_obj {l : List (Nat × Bool)} (hs : Small l) : ∀ a ∈ posA l 0, ∃ e ∈ l, obj (tupW l) (a : Nat) = some ⟨1, e.1, 1 + e.1, false⟩ ∧ ∀ k, k < e.1 → (tupW l).getD (a + 1 + k) 0 = 0 := by
  have key : ∀ (l : List (Nat × Bool)), Small l → ∀ P : List Int, ∀ a ∈ posA l P.length, ∃ e ∈ l, obj (P ++ tupW l) (a : Nat) = some ⟨1, e.1, 1 + e.1, false⟩ ∧ ∀ k, k < e.1 → (P ++ tupW l).getD (a + 1 + k) 0 = 0 := by
    intro l
    induction l with
    | nil => intro _ P a h; cases h
    | cons e l ih =>
      intro hs P a h
      rcases List.mem_cons.1 h with rfl | h
      · exact ⟨e, by simp, obj_tup (hs e (by simp)), fun k hk => by rw [tupW_cons, List.cons_append]; exact getD_after P _ _ k _ hk⟩
      · rw [step_eq]
        obtain ⟨e', h1, h2⟩ := ih (fun x hx => hs x (by simp [hx])) (P ++ (hdT e.1 :: List.replicate e.1 0)) a (by rw [step_len]; exact h)
        exact ⟨e', by simp [h1], h2⟩
  simpa using key l hs []

theorem ptr_ok {a : Nat} (h : a < 1048577) : tg (mkw 5 (a : Int)) = 5 ∧ vl (mkw 5 (a : Int)) = a := ⟨tg_mkw (by omega) (by omega), vl_mkw (by omega) (by omega) (by omega) (by omega)⟩

theorem tup_snd {l : List (Nat × Bool)} (hs : Small l) (hl : (tupW l).length ≤ 1048576) : Snd (tupW l) (ptrs (posR l 0)) (posA l 0) := by
  refine ⟨by simpa using tup_segs l hs [], fun x hx => ?_, fun a ha h ho => ?_⟩
  · obtain ⟨a, ha, rfl⟩ := List.mem_map.1 hx
    have hA := (posR_sub l 0 a ha).1
    have h1 := ptr_ok (a := a) (by have := posA_lt l 0 a hA; omega)
    refine ⟨by rw [h1.1]; decide, by rw [h1.1]; decide, fun _ => ?_⟩
    rw [h1.2]; exact ⟨by omega, by simpa using hA⟩
  · obtain ⟨e, he, h2, h3⟩ := tup_obj hs a ha
    rw [h2] at ho
    obtain rfl := Option.some.inj ho
    refine ⟨by simp [fieldsOf], fun k hk => ?_⟩
    have hk' : k < e.1 := by simp [fieldsOf] at hk; exact hk
    rw [h3 k hk']
    exact ⟨by decide, by decide, fun h => absurd h (by decide)⟩

theorem sorted_ext : ∀ {A B : List Nat}, A.Pairwise (· < ·) → B.Pairwise (· < ·) → (∀ a, a ∈ A ↔ a ∈ B) → A = B
  | [], [], _, _, _ => rfl
  | [], b :: B, _, _, h => by have := (h b).2 (by simp); cases this
  | a :: A, [], _, _, h => by have := (h a).1 (by simp); cases this
  | a :: A, b :: B, hA, hB, h => by
    rw [List.pairwise_cons] at hA hB
    have e : a = b := by
      have h1 := (h a).1 (by simp)
      have h2 := (h b).2 (by simp)
      rcases List.mem_cons.1 h1 with e | h1
      · exact e
      · rcases List.mem_cons.1 h2 with e | h2
        · exact e.symm
        · have := hA.1 b h2; have := hB.1 a h1; omega
    subst e
    rw [sorted_ext hA.2 hB.2 (fun x => ?_)]
    have hx := h x
    simp only [List.mem_cons] at hx
    constructor
    · intro hxA
      rcases hx.1 (.inr hxA) with e | h'
      · have := hA.1 x hxA; omega
      · exact h'
    · intro hxB
      rcases hx.2 (.inr hxB) with e | h'
      · have := hB.1 x hxB; omega
      · exact h'

theorem tup_live {l : List (Nat × Bool)} (hs : Small l) (hl : (tupW l).length ≤ 1048576) {M : List Nat} (hM : LiveL (tupW l) (ptrs (posR l 0)) M) : M = posR l 0 := by
  refine sorted_ext hM.1 (posR_sorted l 0) fun a => ⟨fun h => ?_, fun h => ?_⟩
  · refine (hM.2 a).1 h (· ∈ posR l 0) ⟨fun x hx ht => ?_, fun b hb h ho k hk ht => absurd ht (tup_tag hs _)⟩
    obtain ⟨b, hb, rfl⟩ := List.mem_map.1 hx
    have h1 := ptr_ok (a := b) (by have := posA_lt l 0 b (posR_sub l 0 b hb).1; omega)
    rw [h1.2]; simpa using hb
  · refine (hM.2 a).2 ?_
    have h1 := ptr_ok (a := a) (by have := posA_lt l 0 a (posR_sub l 0 a h).1; omega)
    have := Rch.root (W := tupW l) (R := ptrs (posR l 0)) (x := mkw 5 (a : Int)) (List.mem_map.2 ⟨a, h, rfl⟩) h1.1
    rw [h1.2] at this; simpa using this

theorem tup_gone {l : List (Nat × Bool)} (hs : Small l) : ∀ a ∈ posA l 0, goneAt (tupW l) a = [] := by
  intro a ha
  obtain ⟨e, he, h2, h3⟩ := tup_obj hs a ha
  unfold goneAt
  rw [h2]; simp

theorem tup_tgt {l : List (Nat × Bool)} (hs : Small l) (R : List Int) (M : List Nat) (nf : Nat → Nat) (a : Nat) : tgt (tupW l) R M nf (.mem a) = none := by
  simp only [tgt]; rw [if_neg (fun h => tup_tag hs a h.2)]

/-- An object's words, read from its place. -/
theorem words_at {P : List Int} {e : Nat × Bool} {T : List Int} : (List.range (1 + e.1)).map (fun t => (P ++ (hdT e.1 :: List.replicate e.1 0) ++ T).getD (P.length + t) 0) = hdT e.1 :: List.replicate e.1 0 := by
  apply List.ext_getElem
  · simp; omega
  · intro i h1 h2
    simp only [List.length_cons, List.length_replicate] at h2
    rw [List.getElem_map, List.getElem_range, List.append_assoc, List.getD_eq_getElem?_getD, List.getElem?_append_right (by omega), Nat.add_sub_cancel_left, List.getElem?_append_left (by simpa using h2), List.getElem?_eq_getElem (by simpa using h2)]
    rfl

theorem tup_words {l : List (Nat × Bool)} (hs : Small l) : (posR l 0).flatMap (fun b => (List.range (1 + szO (tupW l) b)).map fun t => (tupW l).getD (b + t) 0) = tupW (keep l) := by
  have key : ∀ (l : List (Nat × Bool)), Small l → ∀ P : List Int, (posR l P.length).flatMap (fun b => (List.range (1 + szO (P ++ tupW l) b)).map fun t => (P ++ tupW l).getD (b + t) 0) = tupW (keep l) := by
    intro l
    induction l with
    | nil => intro _ P; rfl
    | cons e l ih =>
      intro hs P
      have h := ih (fun x hx => hs x (by simp [hx])) (P ++ (hdT e.1 :: List.replicate e.1 0))
      rw [← step_eq, step_len] at h
      simp only [posR]
      split
      · rename_i hb
        have e1 : keep (e :: l) = e :: keep l := by simp [keep, hb]
        rw [List.flatMap_cons, h, e1]
        show _ ++ _ = (hdT e.1 :: List.replicate e.1 0) ++ tupW (keep l)
        congr 1
        have e2 : szO (P ++ tupW (e :: l)) P.length = e.1 := by unfold szO; rw [obj_tup (hs e (by simp))]; simp
        rw [e2, step_eq]
        exact words_at
      · rename_i hb
        have e1 : keep (e :: l) = keep l := by simp [keep, hb]
        rw [h, e1]
  simpa using key l hs []

theorem tup_finW {l : List (Nat × Bool)} (hs : Small l) (R : List Int) : finW (tupW l) R (posR l 0) (szO (tupW l)) (nfO (tupW l)) = tupW (keep l) := by
  rw [← tup_words hs]
  unfold finW
  simp only [fin, tup_tgt hs, orig]

theorem tup_sizes {l : List (Nat × Bool)} (hs : Small l) : (posR l 0).map (szO (tupW l)) = (keep l).map (·.1) := by
  have key : ∀ (l : List (Nat × Bool)), Small l → ∀ P : List Int, (posR l P.length).map (szO (P ++ tupW l)) = (keep l).map (·.1) := by
    intro l
    induction l with
    | nil => intro _ P; rfl
    | cons e l ih =>
      intro hs P
      have h := ih (fun x hx => hs x (by simp [hx])) (P ++ (hdT e.1 :: List.replicate e.1 0))
      rw [← step_eq, step_len] at h
      simp only [posR]
      split
      · rename_i hb
        have e1 : keep (e :: l) = e :: keep l := by simp [keep, hb]
        rw [List.map_cons, h, e1, List.map_cons]
        congr 1
        unfold szO; rw [obj_tup (hs e (by simp))]; simp
      · rename_i hb
        have e1 : keep (e :: l) = keep l := by simp [keep, hb]
        rw [h, e1]
  simpa using key l hs []

theorem keep_all {l : List (Nat × Bool)} (h : ∀ e ∈ l, e.2 = true) : keep l = l := List.filter_eq_self.2 h
theorem keep_true (l : List (Nat × Bool)) : ∀ e ∈ keep l, e.2 = true := fun e he => (List.mem_filter.1 he).2
theorem posR_all : ∀ (l : List (Nat × Bool)) (c : Nat), (∀ e ∈ l, e.2 = true) → posR l c = (List.range l.length).map fun i => c + ((l.take i).map fun e => 1 + e.1).sum
  | [], _, _ => rfl
  | e :: l, c, h => by
    have hb := h e (by simp)
    simp only [posR]; rw [if_pos hb, posR_all l _ (fun x hx => h x (by simp [hx])), List.length_cons, List.range_succ_eq_map, List.map_cons, List.map_map]
    congr 1
    apply List.map_congr_left
    intro i _
    simp; omega
theorem posR_len (l : List (Nat × Bool)) (c : Nat) : (posR l c).length = (keep l).length := by
  induction l generalizing c with
  | nil => rfl
  | cons e l ih =>
    simp only [posR]; split
    · rename_i hb; simp [keep, hb]; exact ih _
    · rename_i hb; simp [keep, hb]; exact ih _

theorem tup_finR {l : List (Nat × Bool)} (hs : Small l) (hl : (tupW l).length ≤ 1048576) : finR (tupW l) (ptrs (posR l 0)) (posR l 0) (szO (tupW l)) (nfO (tupW l)) = ptrs (posR (keep l) 0) := by
  unfold finR ptrs
  rw [posR_all (keep l) 0 (keep_true l), List.map_map, List.length_map, posR_len]
  apply List.map_congr_left
  intro i hi
  have hi' : i < (posR l 0).length := by rw [posR_len]; simpa using hi
  have hA := getD_mem hi'
  have h1 := ptr_ok (a := (posR l 0).getD i 0) (by have := posA_lt l 0 _ (posR_sub l 0 _ hA).1; omega)
  have hr : ((posR l 0).map fun (a : Nat) => mkw 5 (a : Int)).getD i 0 = mkw 5 ((posR l 0).getD i 0 : Nat) := by
    simp [List.getD_eq_getElem?_getD, List.getElem?_map, List.getElem?_eq_getElem hi']
  have ht : tgt (tupW l) ((posR l 0).map fun (a : Nat) => mkw 5 (a : Int)) (posR l 0) (nfO (tupW l)) (.root i) = some ((posR l 0).getD i 0) := by
    simp only [tgt]; rw [hr, if_pos ⟨by simpa using hi', h1.1⟩, h1.2, Int.toNat_natCast]
  simp only [fin, ht, nwd, Function.comp]
  rw [np_get (posR_sorted l 0) _ hi']
  congr 2
  unfold tot
  have := tup_sizes hs
  have e1 : ((posR l 0).take i).map (fun b => 1 + szO (tupW l) b) = (((posR l 0).map (szO (tupW l))).take i).map (fun n => 1 + n) := by rw [← List.map_take, List.map_map]; rfl
  rw [e1, this, ← List.map_take, List.map_map, Nat.zero_add]
  rfl
end Go.Proofs.Ytlkfbmebeodbmaa
