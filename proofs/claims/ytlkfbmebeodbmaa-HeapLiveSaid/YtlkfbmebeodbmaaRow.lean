/- Rows of cells that a slice owns, and append. Plain lemmas on worlds. -/
import Derived.Test.YtlkfbmebeodbmaaMem
import Derived.Maps.AppendAt
import Derived.Lib.AppendZerosOnto
import Derived.Laws.OwnMore
import Derived.Deep.AppendLies
set_option linter.unusedVariables false
namespace Go.Proofs.Ytlkfbmebeodbmaa
open Go.RowKit

/-- The slice v owns the cells xs, of elements of sz cells, in block d (none: it is nil). -/
def Row (w : World) (e : TypeId) (sz : Nat) (v : Value) (d : Option Nat) (n : Nat) (xs : List Value) : Prop := w.ownsRow 0 e sz v n xs ∧ v.ownBlock = d

section
variable {w w' : World} {e : TypeId} {sz n : Nat} {v : Value} {d : Option Nat} {xs : List Value}

theorem Row.nil (w : World) (e : TypeId) (sz : Nat) : Row w e sz (.slice none 0 0) none 0 [] := ⟨World.ownsRow_nil w 0 e sz, rfl⟩
theorem Row.len (h : Row w e sz v d n xs) : xs.length = n * sz := h.1.1
theorem Row.shape (h : Row w e sz v d n xs) : ∃ A cap, v = .slice A n cap := by
  rcases h.1.2 with ⟨rfl, rfl⟩ | ⟨g, cap, cur, rfl, _⟩
  · exact ⟨_, _, rfl⟩
  · exact ⟨_, _, rfl⟩
theorem Row.ncap {A : Option Addr} {cap : Nat} (h : Row w e sz (.slice A n cap) d n xs) : n ≤ cap := by
  rcases h.1.2 with ⟨hv, h0⟩ | ⟨g, cap', cur, hv, _, _, hc, _⟩
  · omega
  · simp only [Value.slice.injEq] at hv; omega
theorem Row.max (h : Row w e sz v d n xs) : n ≤ 9223372036854775807 := by
  rcases h.1.2 with ⟨_, rfl⟩ | ⟨g, cap, cur, _, _, _, h1, h2, _⟩
  · omega
  · simp only [maxLen] at h2; omega
theorem Row.lt (h : Row w e sz v d n xs) {g : Nat} (hd : d = some g) : g < w.heap.size := by
  have := h.2; rw [hd] at this
  exact (h.1.lt g this).2
theorem Row.blk (h : Row w e sz v d n xs) {g : Nat} (hd : d = some g) : ∃ cur, w.heap[g]? = some (.cells cur e (0, 0)) := by
  have h2 := h.2; rw [hd] at h2
  rcases h.1.2 with ⟨rfl, _⟩ | ⟨g', cap, cur, rfl, _, hg, _⟩
  · simp [Value.ownBlock] at h2
  · simp [Value.ownBlock] at h2; subst h2; exact ⟨cur, hg⟩
/-- Blocks of another kind are others. -/
theorem Row.ne (h : Row w e sz v d n xs) {b : Nat} {t : TypeId} {cs : List Value} (hb : Blk w b t cs) (ht : t ≠ e) : ∀ g, d = some g → g ≠ b := by
  rintro g hd rfl
  obtain ⟨cur, hc⟩ := h.blk hd
  unfold Blk at hb; rw [hb] at hc
  simp at hc; exact ht hc.2
theorem Row.ne_row {e' : TypeId} {sz' n' : Nat} {v' : Value} {d' : Option Nat} {xs' : List Value} (h : Row w e sz v d n xs) (h' : Row w e' sz' v' d' n' xs') (ht : e ≠ e') : ∀ g, d = some g → d' ≠ some g := by
  rintro g hd hd'
  obtain ⟨cur, hc⟩ := h.blk hd
  obtain ⟨cur', hc'⟩ := h'.blk hd'
  rw [hc] at hc'
  simp at hc'; exact ht hc'.2
theorem Row.head (h : Row w e sz v d n xs) (hn : 0 < n) : ∃ g cap, v = .slice (some ⟨g, 0, none⟩) n cap ∧ d = some g ∧ n ≤ cap := by
  rcases h.1.2 with ⟨_, h0⟩ | ⟨g, cap, cur, rfl, _, _, hc, _⟩
  · omega
  · exact ⟨g, cap, rfl, h.2.symm.trans rfl |>.trans rfl, hc⟩
theorem Row.cellAt {g cap : Nat} (h : Row w e sz (.slice (some ⟨g, 0, none⟩) n cap) d n xs) (j : Nat) (hj : j < n * sz) : w.cell? ⟨g, j, none⟩ = xs[j]? := h.1.cellAt j hj
theorem Row.frozenAt {g cap : Nat} (h : Row w e sz (.slice (some ⟨g, 0, none⟩) n cap) d n xs) (j : Nat) : w.frozen? ⟨g, j, none⟩ = false := h.1.frozenAt j
theorem Row.block {g cap : Nat} (h : Row w e sz (.slice (some ⟨g, 0, none⟩) n cap) d n xs) : d = some g := h.2.symm
theorem Row.kept {S : Nat → Prop} (h : Row w e sz v d n xs) (k : Kept S w w') (hd : ∀ g, d = some g → ¬ S g) : Row w' e sz v d n xs := by
  refine ⟨⟨h.1.1, ?_⟩, h.2⟩
  rcases h.1.2 with hn | ⟨g, cap, cur, rfl, hb, hg, rest⟩
  · exact .inl hn
  · exact .inr ⟨g, cap, cur, rfl, hb, k.at (hd g (h.2.symm.trans rfl)) hg, rest⟩
theorem Row.alloc (h : Row w e sz v d n xs) (o : Obj) : Row (w.alloc o) e sz v d n xs := ⟨h.1.alloc o, h.2⟩
theorem Row.drew (h : Row w e sz v d n xs) : Row w.drew e sz v d n xs := h
theorem Row.drewN (h : Row w e sz v d n xs) (k : Nat) : Row (w.drewN k) e sz v d n xs := h
theorem Row.store {g cap : Nat} (h : Row w e sz (.slice (some ⟨g, 0, none⟩) n cap) d n xs) (j : Nat) (u : Value) : Row (w.setCell ⟨g, j, none⟩ u) e sz (.slice (some ⟨g, 0, none⟩) n cap) d n (xs.set j u) :=
  ⟨(h.1.stored j u).1, h.2⟩
theorem Row.other (h : Row w e sz v d n xs) {p : Addr} (hp : ∀ g, d = some g → p.block ≠ g) (u : Value) : Row (w.setCell p u) e sz v d n xs :=
  h.kept (S := fun k => k = p.block) (Kept.setCell (S := fun k => k = p.block) (Kept.refl _ w) (.inl rfl) u) (fun g hg e => hp g hg e.symm)
theorem Row.cut {A : Option Addr} {cap : Nat} (h : Row w e sz (.slice A n cap) d n xs) {k : Nat} (hk : k ≤ n) : Row w e sz (.slice A k cap) d k (xs.take (k * sz)) := by
  refine ⟨⟨?_, ?_⟩, ?_⟩
  · rw [List.length_take, h.1.1]; exact Nat.min_eq_left (Nat.mul_le_mul_right _ hk)
  · rcases h.1.2 with ⟨hv, h0⟩ | ⟨g, cap', cur, hv, hb, hg, hc, hm, hs, ht⟩
    · left
      simp only [Value.slice.injEq] at hv
      obtain ⟨rfl, -, rfl⟩ := hv
      have : k = 0 := by omega
      subst this
      exact ⟨rfl, rfl⟩
    · right
      simp only [Value.slice.injEq] at hv
      obtain ⟨rfl, -, rfl⟩ := hv
      refine ⟨g, cap, cur, rfl, hb, hg, by omega, hm, hs, ?_⟩
      rw [← ht, List.take_take, Nat.min_eq_left (Nat.mul_le_mul_right _ hk)]
  · have := h.2
    cases A with
    | none => simpa [Value.ownBlock] using this
    | some a => simpa [Value.ownBlock] using this
theorem Row.made (w : World) (cs : List Value) (n cap : Nat) (e : TypeId) (sz : Nat) (hc : n ≤ cap) (hm : cap ≤ maxLen) (hs : cs.length = cap * sz) : Row (w.alloc (.cells cs.toArray e)) e sz (.slice (some ⟨w.heap.size, 0, none⟩) n cap) (some w.heap.size) n (cs.take (n * sz)) :=
  ⟨⟨by rw [List.length_take, hs]; exact Nat.min_eq_left (Nat.mul_le_mul_right _ hc), .inr ⟨w.heap.size, cap, cs.toArray, rfl, Nat.zero_le _, heap_alloc_new w _, hc, hm, by simpa using hs, by simp⟩⟩, rfl⟩
end

/-- make([]T, n), of elements of one cell. -/
theorem Row.zeros (w : World) (e : TypeId) (z : Value) (n : Nat) (hn : n ≤ 9223372036854775807) : Row (w.alloc (.cells (madeCells #[z] n) e)) e 1 (.slice (some ⟨w.heap.size, 0, none⟩) n n) (some w.heap.size) n (List.replicate n z) := by
  have h : madeCells #[z] n = (List.replicate n z).toArray := by apply Array.ext'; rw [toList_madeCells_one]
  rw [h]
  have := Row.made w (List.replicate n z) n n e 1 (Nat.le_refl _) (by simp only [maxLen]; omega) (by simp)
  simpa using this

section
variable {P : Program}

/-- append(s, y): behind the variadic's box. -/
theorem wpList_push {W : World} {ops : Array Oper} {rest : List Oper} {o : Oper} {a : Act} {Q : Exit → Act → World → Prop} (hgd : o.guard = none) (s x : Operand) (t e : TypeId) (z : Value) (sz bytes : Nat)
    (ho : o.op = .call { callee := .builtin .append, args := #[s, x], argTypes := #[t, t] })
    (ht : P.underlying t = some (.slice e)) (hinfo : (P.info? e).map (fun i => (i.zero, i.size, i.bytes)) = some (some z, sz, bytes)) (hz : z.cells.size = sz) (hsz : 0 < sz) (hb0 : 0 < bytes)
    (v : Value) (d : Option Nat) (n : Nat) (xs ys : List Value) (hs : a.eval s = v) (B : Nat) (hB : W.heap.size = B) (hx : a.eval x = .slice (some ⟨B, 0, none⟩) 1 1) (hy : ys.length = sz) (h1 : ∀ u ∈ ys, u.oneCell' = true)
    (HR : Row W e sz v d n xs) (hl : (n + 1) * bytes ≤ 140737488355328)
    (h : ∀ v1 d1 w1, Row w1 e sz v1 d1 (n + 1) (xs ++ ys) → Kept (fun k => some k = d) W w1 → (d1 = d ∨ ∃ b, d1 = some b ∧ W.heap.size ≤ b) → wpList P ops Q rest (a.put o.dst v1) w1) :
    wpList P ops Q (o :: rest) a (W.alloc (.cells ys.toArray e)) := by
  subst hB
  obtain ⟨i0, hi, hzz⟩ := Option.map_eq_some_iff.1 hinfo
  simp only [Prod.mk.injEq] at hzz
  obtain ⟨hz0, hz1, hz2⟩ := hzz
  have hlen : n + 1 ≤ 140737488355328 := Nat.le_trans (Nat.le_mul_of_pos_right _ hb0) hl
  refine wpList_append_own_at (W.alloc (.cells ys.toArray e)) hgd s x t ho 0 e i0 z sz bytes ht hi hz0 hz1 hz2 hz hsz v n xs hs (HR.1.alloc _) ⟨W.heap.size, 0, none⟩ 1 1 ys hx (by simpa using hy)
    (World.news_of_block (cs := ys.toArray) (t := e) (fr := (0, 0)) (heap_alloc_new W _)) h1 (by simp only [maxLen]; omega) hl (by simp) ?_
  intro v1 w1 hown hg _ hat
  refine h v1 v1.ownBlock w1 ⟨hown, rfl⟩ (((Kept.refl _ W).alloc _).grown hg (fun k hk => .inl (by rw [← hk]; exact HR.2))) ?_
  rcases hat with hat | hat
  · exact .inl (hat.trans HR.2)
  · exact .inr ⟨_, hat, by simp⟩

/-- The same for an element of one cell. -/
theorem wpList_push1 {W : World} {ops : Array Oper} {rest : List Oper} {o : Oper} {a : Act} {Q : Exit → Act → World → Prop} (hgd : o.guard = none) (s x : Operand) (t e : TypeId) (z : Value) (bytes : Nat)
    (ho : o.op = .call { callee := .builtin .append, args := #[s, x], argTypes := #[t, t] })
    (ht : P.underlying t = some (.slice e)) (hinfo : (P.info? e).map (fun i => (i.zero, i.size, i.bytes)) = some (some z, 1, bytes)) (hz : z.cells.size = 1) (hb0 : 0 < bytes)
    (v : Value) (d : Option Nat) (n : Nat) (xs : List Value) (y : Value) (hs : a.eval s = v) (B : Nat) (hB : W.heap.size = B) (hx : a.eval x = .slice (some ⟨B, 0, none⟩) 1 1) (h1 : y.oneCell' = true)
    (HR : Row W e 1 v d n xs) (hl : (n + 1) * bytes ≤ 140737488355328)
    (h : ∀ v1 d1 w1, Row w1 e 1 v1 d1 (n + 1) (xs ++ [y]) → Kept (fun k => some k = d) W w1 → (d1 = d ∨ ∃ b, d1 = some b ∧ W.heap.size ≤ b) → wpList P ops Q rest (a.put o.dst v1) w1) :
    wpList P ops Q (o :: rest) a (W.alloc (.cells #[y] e)) :=
  wpList_push hgd s x t e z 1 bytes ho ht hinfo hz (by decide) hb0 v d n xs [y] hs B hB hx rfl (by intro u hu; simp at hu; subst hu; exact h1) HR hl h

/-- append(s, x...), x in a row of its own. -/
theorem wpList_append_row {W : World} {ops : Array Oper} {rest : List Oper} {o : Oper} {a : Act} {Q : Exit → Act → World → Prop} (hgd : o.guard = none) (s x : Operand) (t e : TypeId) (z : Value) (sz bytes : Nat)
    (ho : o.op = .call { callee := .builtin .append, args := #[s, x], argTypes := #[t, t] })
    (ht : P.underlying t = some (.slice e)) (hinfo : (P.info? e).map (fun i => (i.zero, i.size, i.bytes)) = some (some z, sz, bytes)) (hz : z.cells.size = sz) (hsz : 0 < sz) (hb0 : 0 < bytes)
    (v : Value) (d : Option Nat) (n : Nat) (xs : List Value) (hs : a.eval s = v) (HR : Row W e sz v d n xs)
    (g c : Nat) (d' : Option Nat) (m : Nat) (ys : List Value) (hx : a.eval x = .slice (some ⟨g, 0, none⟩) m c) (HX : Row W e sz (.slice (some ⟨g, 0, none⟩) m c) d' m ys) (h1 : ∀ u ∈ ys, u.oneCell' = true)
    (hl : (n + m) * bytes ≤ 140737488355328)
    (h : ∀ v1 d1 w1, Row w1 e sz v1 d1 (n + m) (xs ++ ys) → Kept (fun k => some k = d) W w1 → (d1 = d ∨ ∃ b, d1 = some b ∧ W.heap.size ≤ b) → wpList P ops Q rest (a.put o.dst v1) w1) :
    wpList P ops Q (o :: rest) a W := by
  obtain ⟨i0, hi, hzz⟩ := Option.map_eq_some_iff.1 hinfo
  simp only [Prod.mk.injEq] at hzz
  obtain ⟨hz0, hz1, hz2⟩ := hzz
  have hlen : n + m ≤ 140737488355328 := Nat.le_trans (Nat.le_mul_of_pos_right _ hb0) hl
  refine wpList_append_own_at W hgd s x t ho 0 e i0 z sz bytes ht hi hz0 hz1 hz2 hz hsz v n xs hs HR.1 ⟨g, 0, none⟩ m c ys hx HX.len
    (fun j u hj => ?_) h1 (by simp only [maxLen]; omega) hl (by simp) ?_
  · have hjl : j < m * sz := by
      have := (List.getElem?_eq_some_iff.1 hj).1; rw [HX.len] at this; exact this
    have hadd : (⟨g, 0, none⟩ : Addr).add j = ⟨g, j, none⟩ := by unfold Addr.add; split <;> simp_all
    rw [hadd, HX.cellAt j hjl]; exact hj
  intro v1 w1 hown hg _ hat
  refine h v1 v1.ownBlock w1 ⟨hown, rfl⟩ ((Kept.refl _ W).grown hg (fun k hk => .inl (by rw [← hk]; exact HR.2))) ?_
  rcases hat with hat | hat
  · exact .inl (hat.trans HR.2)
  · exact .inr ⟨_, hat, Nat.le_refl _⟩

theorem zeroCells_one (z : Value) (n : Nat) : Builtin.zeroCells #[z] n = (List.replicate n z).toArray := by
  apply Array.ext'
  simp only [Builtin.zeroCells, List.size_toArray, List.length_cons, List.length_nil, Nat.zero_add, Nat.mul_one, Nat.mod_one, Array.toList_map, Array.toList_range]
  apply List.ext_getElem
  · simp
  · intro i h1 h2; simp

/-- append(s, make([]T, k)...): elements of one cell. -/
theorem run_append_zeros (w : World) (t tn ty e : TypeId) (i : TypeInfo) (z : Value) (kq kn : IntKind) (ht : P.underlying t = some (.slice e)) (htn : P.underlying tn = some (.int kn)) (hi : P.info? e = some i) (hz : i.zero = some z) (hsize : i.size = 1) (hzc : z.cells = #[z]) (hz1 : z.oneCell' = true)
    (v : Value) (d : Option Nat) (n : Nat) (xs : List Value) (HR : Row w e 1 v d n xs) (k : Nat) (hl : (n + k) * i.bytes ≤ 140737488355328) (hb0 : 0 < i.bytes) :
    ∃ v1 d1 w1, (Builtin.append_ #[t, tn] ty #[v, .int kq k]).run P w = .ok v1 w1 ∧ Row w1 e 1 v1 d1 (n + k) (xs ++ List.replicate k z) ∧ Kept (fun j => some j = d) w w1 ∧ (d1 = d ∨ ∃ b, d1 = some b ∧ w.heap.size ≤ b) := by
  have hnk : n + k ≤ 140737488355328 := Nat.le_trans (Nat.le_mul_of_pos_right _ hb0) hl
  have hkb : k * i.bytes ≤ 140737488355328 := Nat.le_trans (Nat.mul_le_mul_right _ (by omega)) hl
  have hw : IntKind.i64.wrap (k : Int) = k := by rw [IntKind.wrap_i64]; omega
  have hneg : ¬ ((k : Int) < 0) := by omega
  have h48i : ¬ (281474976710656 < (k : Int) * (i.bytes : Int)) := by rw [← Int.natCast_mul]; omega
  have hlen := HR.len
  rcases Nat.eq_zero_or_pos k with rfl | hk
  · obtain ⟨A, cap, rfl⟩ := HR.shape
    refine ⟨.slice A n cap, d, w, ?_, by simpa using HR, Kept.refl _ _, .inl rfl⟩
    have hnc : n ≤ cap := by
      rcases HR.1.2 with ⟨hv, h0⟩ | ⟨g, cap', cur, hv, _, _, hc, _⟩
      · omega
      · simp only [Value.slice.injEq] at hv; omega
    cases A with
    | none => simp [Builtin.append_, run_underlying ht, run_underlying htn, sizeOf, typeInfo, hi, asInt, asIntOf, IntKind.wrap_i64, hnc]
    | some a =>
      simp [Builtin.append_, run_underlying ht, run_underlying htn, sizeOf, typeInfo, hi, asInt, asIntOf, IntKind.wrap_i64, hnc, storeCells]
  · by_cases hroom : ∃ g cap cur, v = .slice (some ⟨g, 0, none⟩) n cap ∧ w.heap[g]? = some (.cells cur e (0, 0)) ∧ n + k ≤ cap ∧ cap ≤ maxLen ∧ cur.size = cap * 1 ∧ cur.toList.take (n * 1) = xs
    · obtain ⟨g, cap, cur, rfl, hg, hr, hm, hs, htk⟩ := hroom
      have hd : d = some g := HR.block
      have hst := run_storeCells_at P g n e (List.replicate k z) 0 cur w hg (by simp; omega) (by intro u hu; rw [List.eq_of_mem_replicate hu]; exact hz1)
      simp only [Nat.add_zero] at hst
      have hadd : (⟨g, 0, none⟩ : Addr).add n = ⟨g, n, none⟩ := by unfold Addr.add; split <;> simp_all
      have hx : cur.toList.take n = xs := by simpa using htk
      refine ⟨.slice (some ⟨g, 0, none⟩) (n + k) cap, d, w.setRow g (List.take n cur.toList ++ List.replicate k z ++ List.drop (n + (List.replicate k z).length) cur.toList).toArray, ?_, ⟨⟨by simp [hlen], .inr ⟨g, cap, (List.take n cur.toList ++ List.replicate k z ++ List.drop (n + (List.replicate k z).length) cur.toList).toArray, rfl, Nat.zero_le _, setRow_heap w g cur _ e _ hg, hr, hm, ?_, ?_⟩⟩, hd.symm⟩, ?_, .inl rfl⟩
      · have hks : ¬ k = 0 := by omega
        simp [Builtin.append_, run_underlying ht, run_underlying htn, sizeOf, typeInfo, zeroValue, hi, hz, hsize, asInt, asIntOf, hw, hneg, h48i, hr, hadd, hks, hzc, zeroCells_one, hst]
      · simp; omega
      · simp only [Nat.mul_one]
        rw [hx]
        have : (xs ++ List.replicate k z).length = n + k := by simp [hlen]
        rw [← this]; exact List.take_left
      · refine ⟨rfl, rfl, rfl, by simp, fun j hj hn => setRow_other w g j _ (fun e => hn (by rw [hd, e]))⟩
    · have hold : ∃ base cap, v = .slice base n cap ∧ cap < n + k ∧ (Builtin.firstCells i.size n (.slice base n cap)).run P w.drew = .ok xs.toArray w.drew := by
        rcases HR.1.2 with ⟨rfl, rfl⟩ | ⟨g, cap, cur, rfl, _, hg, hc, hm, hs, htk⟩
        · have : xs = [] := List.eq_nil_of_length_eq_zero (by simpa using hlen)
          subst this
          exact ⟨none, 0, rfl, by omega, by simp [Builtin.firstCells]⟩
        · refine ⟨_, cap, rfl, ?_, ?_⟩
          · apply Classical.byContradiction; intro hh
            exact hroom ⟨g, cap, cur, rfl, hg, by omega, hm, hs, htk⟩
          · have := HR.1.drew
            exact run_firstCells_some (P := P) w.drew i.size n ⟨g, 0, none⟩ n cap xs (by rw [hsize]; exact hlen) (this.cells (g := g) rfl)
      obtain ⟨base, cap, rfl, hcap, hfc⟩ := hold
      have hfit : Builtin.nextslicecap (n + k) cap * i.bytes ≤ 281474976710656 := growslice_fits hcap hl
      have hrun := Lib.run_append_grow_zeros (P := P) w t tn ty e i z kq kn ht htn hi hz base n cap xs hfc k hk (by omega) hcap (by omega) (by omega) hfit
      have hge := grownCap_ge w (n + k) cap e
      have hcm : grownCap w (n + k) cap e ≤ maxLen := grownCap_le_maxLen w (n + k) cap e (by simp only [maxLen]; omega)
      refine ⟨_, _, _, hrun, ⟨⟨by simp [hlen], .inr ⟨w.heap.size, _, _, rfl, Nat.zero_le _, heap_alloc_new w.drew _, hge, hcm, ?_, ?_⟩⟩, rfl⟩, ?_, .inr ⟨_, rfl, Nat.le_refl _⟩⟩
      · simp only [hzc, zeroCells_one, Array.size_append, List.size_toArray, List.length_replicate, hlen]; omega
      · simp only [hzc, zeroCells_one, Array.toList_append, List.append_assoc, Nat.mul_one]
        rw [← List.append_assoc]
        have : (xs ++ List.replicate k z).length = n + k := by simp [hlen]
        rw [← this]; exact List.take_left
      · exact ((Kept.refl _ w).drew).alloc _

theorem wpList_append_zeros {w : World} {ops : Array Oper} {rest : List Oper} {o : Oper} {a : Act} {Q : Exit → Act → World → Prop} (hgd : o.guard = none) (s x : Operand) (t tn e : TypeId) (z : Value) (bytes : Nat) (kq kn : IntKind)
    (ho : o.op = .call { callee := .builtin .append, args := #[s, x], argTypes := #[t, tn] })
    (ht : P.underlying t = some (.slice e)) (htn : P.underlying tn = some (.int kn)) (hinfo : (P.info? e).map (fun i => (i.zero, i.size, i.bytes)) = some (some z, 1, bytes)) (hzc : z.cells = #[z]) (hz1 : z.oneCell' = true) (hb0 : 0 < bytes)
    (v : Value) (d : Option Nat) (n : Nat) (xs : List Value) (k : Nat) (hs : a.eval s = v) (hx : a.eval x = .int kq k)
    (HR : Row w e 1 v d n xs) (hl : (n + k) * bytes ≤ 140737488355328)
    (h : ∀ v1 d1 w1, Row w1 e 1 v1 d1 (n + k) (xs ++ List.replicate k z) → Kept (fun j => some j = d) w w1 → (d1 = d ∨ ∃ b, d1 = some b ∧ w.heap.size ≤ b) → wpList P ops Q rest (a.put o.dst v1) w1) :
    wpList P ops Q (o :: rest) a w := by
  obtain ⟨i0, hi, hzz⟩ := Option.map_eq_some_iff.1 hinfo
  simp only [Prod.mk.injEq] at hzz
  obtain ⟨hz0, hz1', hz2⟩ := hzz
  subst hz2
  obtain ⟨v1, d1, w1, hr, h1, h2, h3⟩ := run_append_zeros (P := P) w t tn o.type e i0 z kq kn ht htn hi hz0 hz1' hzc hz1 v d n xs HR k hl hb0
  exact Lib.wpList_append_run w hgd s x t tn ho v (.int kq k) hs hx v1 w1 hr (h v1 d1 w1 h1 h2 h3)
end
end Go.Proofs.Ytlkfbmebeodbmaa
