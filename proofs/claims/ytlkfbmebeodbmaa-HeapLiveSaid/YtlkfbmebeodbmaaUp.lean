/- Contracts of package slide: the first way through the heap. -/
import Derived.Test.YtlkfbmebeodbmaaLoose
import Derived.Test.YtlkfbmebeodbmaaPhase
set_option linter.unusedVariables false
namespace Go.Proofs.Ytlkfbmebeodbmaa
open Go.RowKit Go.Thr

theorem obj_congr {W W' : List Int} {i : Nat} (h1 : W.length = W'.length) (h2 : W.getD i 0 = W'.getD i 0) : obj W (i : Int) = obj W' (i : Int) := by
  unfold obj; simp only [Int.toNat_natCast, h1, h2]

theorem tobject_any (w : World) (p : Nat) (v : Value) (d : Option Nat) (vr : Value) (dr : Option Nat) (z : Int) (nW nR : Nat) (m : Fld → Int) (H : TSt w p v d vr dr z nW nR m) (a : Nat) (W : List Int) (hn : W.length = nW) (hm : m (.mem a) = W.getD a 0) (h : Hd) (ho : obj W (a : Int) = some h) :
    Calls Try.prog 38 #[.pointer (some ⟨p, 0, none⟩), .int .i64 a] w fun e w' => e = .returned (.tuple #[h.val, .bool true]) ∧ Only w w' := by
  obtain ⟨⟨W', h1, h2, h3⟩, _⟩ := H
  have hlt := (obj_some ho).2.1
  refine object_some w p v d W' z h1 a h ?_
  rw [← ho]
  exact obj_congr (by omega) (by rw [h3 a (by omega), hm])

/-- The number of words of the first objects. -/
def tot (M : List Nat) (sz : Nat → Nat) (i : Nat) : Nat := ((M.take i).map fun b => 1 + sz b).sum
theorem tot_zero (M : List Nat) (sz : Nat → Nat) : tot M sz 0 = 0 := by simp [tot]
theorem tot_succ (M : List Nat) (sz : Nat → Nat) (i : Nat) (h : i < M.length) : tot M sz (i + 1) = tot M sz i + (1 + sz (M.getD i 0)) := by
  unfold tot
  rw [List.take_succ_eq_append_getElem h, List.map_append, List.sum_append, List.getD_eq_getElem?_getD, List.getElem?_eq_getElem h]
  simp only [List.map_cons, List.map_nil, List.sum_cons, List.sum_nil, Option.getD_some]
  omega

theorem sorted_get {M : List Nat} (hs : M.Pairwise (· < ·)) {i j : Nat} (hij : i < j) (hj : j < M.length) : M.getD i 0 < M.getD j 0 := by
  rw [List.pairwise_iff_getElem] at hs
  have := hs i j (by omega) hj hij
  simpa [List.getD, List.getElem?_eq_getElem hj, List.getElem?_eq_getElem (show i < M.length by omega)] using this
theorem getD_mem {M : List Nat} {i : Nat} (h : i < M.length) : M.getD i 0 ∈ M := by
  rw [List.getD_eq_getElem?_getD, List.getElem?_eq_getElem h]; exact List.getElem_mem h
theorem mem_getD {M : List Nat} {b : Nat} (h : b ∈ M) : ∃ i, i < M.length ∧ M.getD i 0 = b := by
  obtain ⟨i, hi, rfl⟩ := List.mem_iff_getElem.1 h
  exact ⟨i, hi, by simp [List.getD, List.getElem?_eq_getElem hi]⟩
/-- Where the next object stands, or the end. -/
def nxt (M : List Nat) (n i : Nat) : Nat := M.getD i n
theorem nxt_lt {M : List Nat} {n i : Nat} (h : i < M.length) : nxt M n i = M.getD i 0 := by simp [nxt, List.getD, List.getElem?_eq_getElem h]
theorem nxt_ge {M : List Nat} {n i : Nat} (h : M.length ≤ i) : nxt M n i = n := by simp [nxt, List.getD, List.getElem?_eq_none h]
theorem nxt_gap {M : List Nat} {n i : Nat} (hs : M.Pairwise (· < ·)) (hn : ∀ b ∈ M, b < n) (hi : i < M.length) : ∀ b ∈ M, b ≤ M.getD i 0 ∨ nxt M n (i + 1) ≤ b := by
  intro b hb
  obtain ⟨j, hj, rfl⟩ := mem_getD hb
  rcases Nat.lt_or_ge i j with h | h
  · right
    rw [nxt_lt (by omega)]
    rcases Nat.lt_or_ge (i + 1) j with h' | h'
    · exact Nat.le_of_lt (sorted_get hs h' hj)
    · have : j = i + 1 := by omega
      subst this; exact Nat.le_refl _
  · left
    rcases Nat.lt_or_ge j i with h' | h'
    · exact Nat.le_of_lt (sorted_get hs h' hi)
    · have : j = i := by omega
      subst this; exact Nat.le_refl _
theorem nxt_le {M : List Nat} {n : Nat} (hs : M.Pairwise (· < ·)) (hn : ∀ b ∈ M, b < n) : ∀ b ∈ M, nxt M n 0 ≤ b := by
  intro b hb
  obtain ⟨j, hj, rfl⟩ := mem_getD hb
  rw [nxt_lt (by omega)]
  rcases Nat.eq_zero_or_pos j with h | h
  · subst h; exact Nat.le_refl _
  · exact Nat.le_of_lt (sorted_get hs h hj)
theorem filter_take {M : List Nat} (hs : M.Pairwise (· < ·)) {i : Nat} (hi : i < M.length) : M.filter (fun b => decide (b < M.getD i 0)) = M.take i := by
  have h1 : M = M.take i ++ M.drop i := (List.take_append_drop i M).symm
  have h2 : (M.take i).filter (fun b => decide (b < M.getD i 0)) = M.take i := by
    rw [List.filter_eq_self]
    intro b hb
    obtain ⟨j, hj, rfl⟩ := List.mem_iff_getElem.1 hb
    rw [List.length_take] at hj
    have := sorted_get hs (show j < i by omega) hi
    simp only [List.getElem_take, decide_eq_true_eq]
    simpa [List.getD, List.getElem?_eq_getElem hi, List.getElem?_eq_getElem (show j < M.length by omega)] using this
  have h3 : (M.drop i).filter (fun b => decide (b < M.getD i 0)) = [] := by
    rw [List.filter_eq_nil_iff]
    intro b hb
    obtain ⟨j, hj, rfl⟩ := List.mem_iff_getElem.1 hb
    rw [List.length_drop] at hj
    simp only [List.getElem_drop, decide_eq_true_eq]
    rcases Nat.eq_zero_or_pos j with h | h
    · subst h; simp [List.getD, List.getElem?_eq_getElem hi]
    · have := sorted_get hs (show i < i + j by omega) (by omega)
      have e : M.getD (i + j) 0 = M[i + j] := by simp [List.getD, List.getElem?_eq_getElem (show i + j < M.length by omega)]
      omega
  calc M.filter (fun b => decide (b < M.getD i 0)) = (M.take i ++ M.drop i).filter (fun b => decide (b < M.getD i 0)) := by rw [← h1]
    _ = M.take i := by rw [List.filter_append, h2, h3, List.append_nil]
theorem np_get {M : List Nat} (hs : M.Pairwise (· < ·)) (sz : Nat → Nat) {i : Nat} (hi : i < M.length) : np M sz (M.getD i 0) = tot M sz i := by
  unfold np tot; rw [filter_take hs hi]
theorem tot_le {W R : List Int} {M : List Nat} {sz nf : Nat → Nat} (G : Geo W R M sz nf) : ∀ i, i ≤ M.length → tot M sz i ≤ nxt M W.length i
  | 0, _ => by rw [tot_zero]; omega
  | i + 1, h => by
    have ih := tot_le G i (by omega)
    rw [nxt_lt (by omega)] at ih
    rw [tot_succ M sz i (by omega)]
    rcases Nat.lt_or_ge (i + 1) M.length with h' | h'
    · rw [nxt_lt h']
      have := G.apart _ (getD_mem (show i < M.length by omega)) _ (getD_mem h') (sorted_get G.sorted (Nat.lt_succ_self i) h')
      omega
    · rw [nxt_ge h']
      have := G.inW _ (getD_mem (show i < M.length by omega))
      omega
theorem tot_lt {W R : List Int} {M : List Nat} {sz nf : Nat → Nat} (G : Geo W R M sz nf) {i : Nat} (h : i < M.length) : tot M sz i ≤ M.getD i 0 := by
  have := tot_le G i (by omega); rw [nxt_lt h] at this; exact this

/-- The places in a row without repetition. -/
theorem nodup_bound : ∀ (n : Nat) (l : List Nat), l.Nodup → (∀ x ∈ l, x < n) → l.length ≤ n
  | 0, l, _, h => by
    cases l with
    | nil => simp
    | cons x l => have := h x (by simp); omega
  | n + 1, l, hn, h => by
    have h1 : (l.filter (· ≠ n)).length ≤ n := nodup_bound n _ (hn.filter _) (fun x hx => by
      have := List.mem_filter.1 hx
      have h1 := h x this.1
      have h2 : x ≠ n := by simpa using this.2
      omega)
    have h2 : l.length ≤ (l.filter (· ≠ n)).length + 1 := by
      have hc : l.count n ≤ 1 := List.nodup_iff_count.1 hn n
      have := List.length_eq_countP_add_countP (l := l) (fun x => decide (x ≠ n))
      have h3 : l.countP (fun x => decide (¬ (decide (x ≠ n) = true))) = l.count n := by
        unfold List.count; apply List.countP_congr; intro x _; simp
      rw [h3, List.countP_eq_length_filter] at this
      omega
    omega
def enc (nW : Nat) : Fld → Nat
  | .mem a => a
  | .root i => nW + i
theorem fs_bound {nW nR : Nat} {fs : List Fld} (hn : fs.Nodup) (hin : ∀ f ∈ fs, InR nW nR f) : fs.length ≤ nW + nR := by
  have h1 : (fs.map (enc nW)).Nodup := by
    rw [List.Nodup, List.pairwise_map]
    refine List.Pairwise.imp_of_mem ?_ hn
    intro f g hf hg hne he
    apply hne
    have h2 := hin f hf
    have h3 := hin g hg
    cases f <;> cases g <;> simp only [enc, InR] at he h2 h3 <;> first | (exfalso; omega) | (rw [he]) | (congr 1; omega)
  have := nodup_bound (nW + nR) _ h1 (fun x hx => by
    obtain ⟨f, hf, rfl⟩ := List.mem_map.1 hx
    have := hin f hf
    cases f <;> simp only [enc, InR] at this ⊢ <;> omega)
  simpa using this
theorem Geo.inR {W R : List Int} {M : List Nat} {sz nf : Nat → Nat} (G : Geo W R M sz nf) {f : Fld} (h : tgt W R M nf f ≠ none) : InR W.length R.length f := by
  cases f with
  | root i =>
    simp only [tgt] at h
    split at h
    · rename_i hc; exact hc.1
    · exact absurd rfl h
  | mem a =>
    rcases G.owner h with ho | ⟨b, hb, h1, h2⟩
    · simp only [pos] at ho; omega
    · have := G.inW b hb; have := G.nfle b hb
      simp only [pos] at h1 h2; simp only [InR]; omega
end Go.Proofs.Ytlkfbmebeodbmaa
