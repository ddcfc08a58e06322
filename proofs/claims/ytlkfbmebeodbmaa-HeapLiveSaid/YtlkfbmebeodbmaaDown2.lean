/- Contracts of package slide: the second way through the heap. -/
import Derived.Test.YtlkfbmebeodbmaaDown
set_option linter.unusedVariables false
namespace Go.Proofs.Ytlkfbmebeodbmaa
open Go.RowKit Go.Thr

/-- What a place holds in the end. -/
def fin (W R : List Int) (M : List Nat) (sz nf : Nat → Nat) (f : Fld) : Int := match tgt W R M nf f with | some j => nwd M sz j | none => orig W R f
def finW (W R : List Int) (M : List Nat) (sz nf : Nat → Nat) : List Int := M.flatMap fun b => (List.range (1 + sz b)).map fun t => fin W R M sz nf (.mem (b + t))
def finR (W R : List Int) (M : List Nat) (sz nf : Nat → Nat) : List Int := (List.range R.length).map fun i => fin W R M sz nf (.root i)

theorem mv_self (m : Fld → Int) (a n : Nat) : mv m a a n = m := by
  funext f; cases f with
  | root i => rfl
  | mem q => simp only [mv]; split <;> congr 2; omega

theorem take_add (W : List Int) (f : Nat → Int) (a : Nat) : ∀ n, a + n ≤ W.length → (∀ t, t < n → W.getD (a + t) 0 = f t) → W.take (a + n) = W.take a ++ (List.range n).map f
  | 0, _, _ => by simp
  | n + 1, h, hf => by
    have ih := take_add W f a n (by omega) (fun t ht => hf t (by omega))
    have h1 := hf n (by omega)
    rw [List.getD_eq_getElem?_getD, List.getElem?_eq_getElem (by omega)] at h1
    rw [← Nat.add_assoc, List.take_succ_eq_append_getElem (by omega), ih, List.range_succ, List.map_append, ← List.append_assoc]
    simp only [List.map_cons, List.map_nil]
    rw [← h1]; rfl

/-- What is laid down so far: of the first i objects. -/
def Done (W R : List Int) (M : List Nat) (sz nf : Nat → Nat) (i : Nat) (m : Fld → Int) : Prop := ∀ j, j < i → ∀ t, t ≤ sz (M.getD j 0) → m (.mem (tot M sz j + t)) = fin W R M sz nf (.mem (M.getD j 0 + t))

theorem tot_mono {M : List Nat} {sz : Nat → Nat} {j i : Nat} (h : j < i) (hi : i ≤ M.length) : tot M sz j + (1 + sz (M.getD j 0)) ≤ tot M sz i := by
  induction i with
  | zero => omega
  | succ i ih =>
    rw [tot_succ M sz i (by omega)]
    rcases Nat.lt_or_ge j i with h' | h'
    · have := ih h' (by omega); omega
    · have : j = i := by omega
      subst this; omega

theorem done_words {W R : List Int} {M : List Nat} {sz nf : Nat → Nat} (X : List Int) (m : Fld → Int) (hX : ∀ a, a < X.length → X.getD a 0 = m (.mem a)) (hD : Done W R M sz nf M.length m) (hl : tot M sz M.length ≤ X.length) :
    ∀ i, i ≤ M.length → X.take (tot M sz i) = (M.take i).flatMap fun b => (List.range (1 + sz b)).map fun t => fin W R M sz nf (.mem (b + t))
  | 0, _ => by simp [tot_zero]
  | i + 1, h => by
    have ih := done_words X m hX hD hl i (by omega)
    have hle : tot M sz (i + 1) ≤ tot M sz M.length := by
      rcases Nat.lt_or_ge (i + 1) M.length with h' | h'
      · have := tot_mono (M := M) (sz := sz) h' (Nat.le_refl _); omega
      · have : i + 1 = M.length := by omega
        rw [this]; exact Nat.le_refl _
    have hts := tot_succ M sz i (by omega)
    rw [hts, take_add X (fun t => fin W R M sz nf (.mem (M.getD i 0 + t))) (tot M sz i) (1 + sz (M.getD i 0)) (by omega) (fun t ht => ?_), ih]
    · rw [List.take_succ_eq_append_getElem (by omega), List.flatMap_append]
      simp [List.getD, List.getElem?_eq_getElem (show i < M.length by omega)]
    · rw [hX _ (by omega)]
      exact hD i (by omega) t (by omega)

theorem tcut_any (w : World) (p : Nat) (v : Value) (d : Option Nat) (vr : Value) (dr : Option Nat) (z : Int) (W R : List Int) (M : List Nat) (sz nf : Nat → Nat) (G : Geo W R M sz nf) (m : Fld → Int) (H : TSt w p v d vr dr z W.length R.length m)
    (hD : Done W R M sz nf M.length m) (hR : ∀ i, i < R.length → m (.root i) = fin W R M sz nf (.root i)) :
    Calls Try.prog 28 #[.pointer (some ⟨p, 0, none⟩), .int .i64 (tot M sz M.length : Nat), .int .i64 z] w fun e w' => e = .returned (.bool true) ∧ (∃ v', Ar w' p v' d (finW W R M sz nf) z) ∧ Ws w' vr dr (finR W R M sz nf) ∧ Kept (fun k => k = p) w w' := by
  have hmx := H.max
  have htl := tot_le G M.length (Nat.le_refl _)
  rw [nxt_ge (Nat.le_refl _)] at htl
  obtain ⟨⟨X, h1, h2, h3⟩, ⟨Y, h4, h5, h6⟩, hne, hsm⟩ := H
  refine (cut_ok w p v d X z h1 (tot M sz M.length) (by omega) z (by omega) hmx.2).mono ?_
  rintro e w' ⟨rfl, ⟨v', hA, hk⟩⟩
  have e1 : X.take (tot M sz M.length) = finW W R M sz nf := by
    rw [done_words X m (fun a ha => h3 a (by omega)) hD (by omega) M.length (Nat.le_refl _), List.take_length]; rfl
  have e2 : Y = finR W R M sz nf := by
    apply List.ext_getElem
    · simp [finR, h5]
    · intro i hi1 hi2
      have := (h6 i (by omega)).trans (hR i (by omega))
      rw [List.getD_eq_getElem?_getD, List.getElem?_eq_getElem hi1] at this
      simpa [finR] using this
  refine ⟨rfl, ⟨v', by rw [← e1]; exact hA⟩, ?_, hk⟩
  rw [← e2]
  exact h4.kept hk (fun g hg e => h4.row.ne h1.blk (by decide) g hg e)
end Go.Proofs.Ytlkfbmebeodbmaa
