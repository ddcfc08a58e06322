/- The statement HeapGives: the contracts at a heap whose tuples are all roots. -/
import Derived.Test.YtlkfbmebeodbmaaLaw15
set_option linter.unusedVariables false
namespace Go.Proofs.Ytlkfbmebeodbmaa
open Go.RowKit Go.Thr

theorem tup_len (l : List (Nat × Bool)) (e : Nat × Bool) : (tupW (l ++ [e])).length = (tupW l).length + 1 + e.1 := by rw [tupW_snoc]; simp; omega
theorem posR_snoc (l : List (Nat × Bool)) (e : Nat × Bool) : ∀ i, posR (l ++ [e]) i = posR l i ++ (if e.2 then [i + (tupW l).length] else []) := by
  induction l with
  | nil => intro i; simp only [List.nil_append, posR, tupW, List.flatMap_nil, List.length_nil, Nat.add_zero]
  | cons x l ih =>
    intro i
    have e1 : (tupW (x :: l)).length = 1 + x.1 + (tupW l).length := by rw [tupW_cons]; simp; omega
    simp only [List.cons_append, posR, ih, e1]
    have e2 : i + 1 + x.1 + (tupW l).length = i + (1 + x.1 + (tupW l).length) := by omega
    rw [e2]
    split <;> simp
theorem small_snoc {l : List (Nat × Bool)} {e : Nat × Bool} (h : Small l) (he : e.1 < 1048575) : Small (l ++ [e]) := by
  intro x hx
  rcases List.mem_append.1 hx with hx | hx
  · exact h x hx
  · rw [List.mem_singleton.1 hx]; exact he

theorem hneed_kept (w : World) (h p : Nat) (sv v : Value) (d : Option Nat) (z mst : Int) (vr : Value) (dr : Option Nat) (l : List (Nat × Bool)) (H : HSt w h p sv v d z mst vr dr l) (hall : ∀ e ∈ l, e.2 = true) (n : Int) (hn : 0 ≤ n) (hn1 : n ≤ 1048576) :
    Calls Try.prog 9 #[.pointer (some ⟨h, 0, none⟩), .int .i64 n, vr] w fun e w' => ∃ z' v', e = .returned (.bool (decide ((tupW l).length + n ≤ mst))) ∧ HSt w' h p sv v' d z' mst vr dr l ∧ Kept (fun k => foot2 d dr k ∨ k = p) w w' ∧ ((tupW l).length + n ≤ mst → n ≤ z' - (tupW l).length) := by
  have hlen := H.len
  refine (hneed_any w h p sv v d z mst vr dr l H n hn hn1).mono ?_
  rintro e w' ⟨ok, l', z', v', rfl, hH, hk, hc⟩
  rw [keep_all hall] at hc
  refine ⟨z', v', ?_, ?_, hk, ?_⟩
  · rcases hc with ⟨h1, rfl, rfl, rfl⟩ | ⟨h1, rfl, ⟨h2, rfl, rfl⟩ | ⟨h2, rfl, rfl⟩⟩
    · rw [decide_eq_true (by omega)]
    · rw [decide_eq_true (by omega)]
    · rw [decide_eq_false (by omega)]
  · rcases hc with ⟨h1, rfl, rfl, rfl⟩ | ⟨h1, rfl, _⟩ <;> exact hH
  · intro hle
    rcases hc with ⟨h1, rfl, rfl, rfl⟩ | ⟨h1, rfl, ⟨h2, rfl, rfl⟩ | ⟨h2, rfl, rfl⟩⟩
    · exact h1
    · have := roomZ_ge (mst := mst) (u := (tupW l').length + n) (by omega) (by omega); omega
    · omega

theorem hmake_tup (w : World) (h p : Nat) (sv v : Value) (d : Option Nat) (z mst : Int) (vr : Value) (dr : Option Nat) (l : List (Nat × Bool)) (H : HSt w h p sv v d z mst vr dr l) (k : Nat) (hks : k < 1048575) (hz : 1 + (k : Int) ≤ z - (tupW l).length) (t : Int) (ht : t = 1 + k) (b : Bool) (vf : Value) (df : Option Nat) (HF : Ws w vf df (List.replicate k 0)) (hne : ∀ g, df = some g → d ≠ some g) :
    Calls Try.prog 10 #[.pointer (some ⟨h, 0, none⟩), .agg #[.int .i64 1, .int .i64 k, .int .i64 t, .bool false], vf] w fun e w' => e = .returned (.tuple #[.int .u64 (mkw 5 (tupW l).length), .bool true]) ∧ ∃ v' d', Hp w' h p sv v' d' (tupW (l ++ [(k, b)])) z mst ∧ Ws w' vr dr (ptrs (posR l 0)) ∧ (∀ g, d' = some g → dr ≠ some g) ∧ Kept (foot p d) w w' ∧ (d' = d ∨ ∃ b, d' = some b ∧ w.heap.size ≤ b) := by
  have hlen := H.len
  subst ht
  have hpr : dr ≠ some p := fun e => H.ws.row.ne H.hp.ar.blk (by decide) p e rfl
  have hne2 := H.ne
  have hws := H.ws
  refine (hmake_ok w h p sv v d _ z mst H.hp 1 (1 + k) k false (by omega) (by omega) (by omega) vf df _ HF (by simp) hne hz).mono ?_
  rintro e w' ⟨rfl, v', d', hH, hk, hd⟩
  refine ⟨rfl, v', d', by rw [tupW_snoc]; exact hH, hws.kept hk ?_, ?_, hk, hd⟩
  · rintro g hg (e | e)
    · exact hpr (by rw [← e]; exact hg)
    · exact hne2 g e.symm hg
  · intro g hg hg'
    rcases hd with e | ⟨b, e, hb⟩
    · exact hne2 g (by rw [← e]; exact hg) hg'
    · have := hws.row.lt hg'
      rw [e] at hg; have := Option.some.inj hg; omega

theorem ws_zeros (w : World) (k : Nat) (hk : k ≤ 1048576) : Ws (w.alloc (.cells (madeCells #[.int .u64 0] k) 32)) (.slice (some ⟨w.heap.size, 0, none⟩) k k) (some w.heap.size) (List.replicate k 0) := by
  have h := Row.zeros w 32 (.int .u64 0) k (by omega)
  refine ⟨?_, fun x hx => by rw [(List.mem_replicate.1 hx).2]; decide⟩
  simpa [words] using h
theorem HSt.alloc {w : World} {h p : Nat} {sv v : Value} {d : Option Nat} {z mst : Int} {vr : Value} {dr : Option Nat} {l : List (Nat × Bool)} (H : HSt w h p sv v d z mst vr dr l) (o : Obj) : HSt (w.alloc o) h p sv v d z mst vr dr l := H.only ((Kept.refl _ w).alloc o)

theorem push_root {w5 w6 : World} {h p : Nat} {sv v5 vr v6 : Value} {d5 dr d6 : Option Nat} {z n : Int} {l : List (Nat × Bool)} {k N : Nat} (hH5 : Hp w5 h p sv v5 d5 (tupW (l ++ [(k, true)])) z n) (hne5 : ∀ g, d5 = some g → dr ≠ some g) (hsm : Small l) (hk : k < 1048575)
    (hR5 : Row w5 32 1 vr dr N (words (ptrs (posR l 0)))) (hR6 : Row w6 32 1 v6 d6 (N + 1) (words (ptrs (posR l 0)) ++ [.int .u64 (mkw 5 (tupW l).length)])) (hk6 : Kept (fun j => some j = dr) w5 w6) (hd6 : d6 = dr ∨ ∃ c, d6 = some c ∧ w5.heap.size ≤ c) :
    HSt w6 h p sv v5 d5 z n v6 d6 (l ++ [(k, true)]) := by
  have e : ptrs (posR (l ++ [(k, true)]) 0) = ptrs (posR l 0) ++ [mkw 5 (tupW l).length] := by
    rw [posR_snoc]; simp [ptrs]
  have e2 : words (ptrs (posR (l ++ [(k, true)]) 0)) = words (ptrs (posR l 0)) ++ [.int .u64 (mkw 5 (tupW l).length)] := by rw [e]; simp [words]
  have eN : (ptrs (posR (l ++ [(k, true)]) 0)).length = N + 1 := by
    have h1 := hR6.len; rw [← e2] at h1; simpa [words] using h1
  refine ⟨hH5.kept hk6 (fun e => hR5.ne hH5.blk (by decide) h e.symm rfl) (fun e => hR5.ne hH5.ar.blk (by decide) p e.symm rfl) (fun g hg e => hne5 g hg e.symm), ⟨?_, ?_⟩, ?_, small_snoc hsm hk⟩
  · rw [eN, e2]; exact hR6
  · intro x hx
    obtain ⟨a, _, rfl⟩ := List.mem_map.1 hx
    exact mkw_range 5 _
  · intro g hg hg'
    rcases hd6 with e | ⟨c, e, hc⟩
    · exact hne5 g hg (by rw [← e]; exact hg')
    · have := hH5.ar.ws.row.lt hg
      rw [e] at hg'; have := Option.some.inj hg'; omega
end Go.Proofs.Ytlkfbmebeodbmaa
