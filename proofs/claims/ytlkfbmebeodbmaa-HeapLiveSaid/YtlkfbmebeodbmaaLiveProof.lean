/- The statement HeapLive: the shell by the guide's program, the walk joined. -/
import Derived.Test.YtlkfbmebeodbmaaRows
import Derived.WalkKit
import Derived.ProofKit
import Derived.OpenShut
import Derived.ShutString
import Derived.ChangeOld
import Derived.Below
import Derived.Test.YtlkfbmebeodbmaaLiveTop
import Derived.WideKeyPair
import Derived.Deep.Grids
namespace Go.Proofs.Ytlkfbmebeodbmaa.heapLive
open Go.Proofs.Ytlkfbmebeodbmaa
open Go.ChangeShapes Go.WideShapes Go.ChangeAt Go.RowKit
open Go.ChangeMaps (open_string shut_string)
set_option linter.unusedVariables false

theorem own : ownKnob Try.prog.godebug = none := by kernel_rfl
theorem laidOut : laidOutB Try.prog = true := by kernel_rfl

/-- What the walk is told of a slice of truth values that came in: it is nil, or it leads to a row of them. -/
def IsBools (w : World) (a : Option Addr) (len cap : Nat) : Prop :=
  (a = none ∧ len = 0 ∧ cap = 0) ∨ ∃ x, a = some x ∧ len ≤ cap ∧ ∀ i, i < cap → ∃ b, w.cell? (x.add i) = some (.bool b)

theorem wf_u16 {a : Int} (h : (Lit.int .u16 a).wf = true) : 0 ≤ a ∧ a < 65536 := by
  simp [Lit.wf, IntKind.min, IntKind.max, IntKind.signed, IntKind.bits] at h
  omega

theorem walk (a0 b0 : Int) (a1 : Option Addr) (len1 cap1 : Nat) (c2 : Bool) (w : World) (w0 : (Lit.int .u16 a0).wf = true) (v0 : (Lit.int .u16 b0).wf = true) (w1 : IsBools w a1 len1 cap1) :
    Calls Try.prog 4 #[.agg #[.int .u16 a0, .int .u16 b0], .slice a1 len1 cap1, .bool c2] w fun e w' => e = .returned (.bool true) ∧ Below w.heap.size w w' := by
  refine (livetop_any w a0 b0 (wf_u16 w0) (wf_u16 v0) c2 (.slice a1 len1 cap1) len1 ⟨_, _, rfl⟩ ?_).mono ?_
  · intro wx hk A c e i hi
    cases e
    rcases w1 with ⟨_, rfl, _⟩ | ⟨x, hx, hl, hc⟩
    · omega
    · obtain ⟨b, hb⟩ := hc i (by omega)
      exact ⟨x, b, hx, hk.cell (fun h => h) hb⟩
  · rintro e w' ⟨rfl, hk⟩
    exact ⟨rfl, hk.below (Nat.le_refl _) (fun k h => h.elim)⟩

theorem pairKey : Go.WideMaps.ArrKey Try.prog 39 22 2 := ⟨Try.underlying39, by kernel_rfl, by kernel_rfl, by kernel_rfl⟩

/-! ### THE ROW's STEP -/
set_option maxRecDepth 100000 in
theorem lifted (os : Os) (started : os.Started) (H : Type) (enc : TypeId × Value → H) :
    ReturnsInHanded {} Try.checked os 4 .any (Rows.heapLiveSpec.pre6 enc Try.prog Try.f4 Rows.heapLiveRow.domain false) (Rows.heapLiveSpec.post enc Try.prog Try.f4 false true false false) := by
  refine returnsInHanded_of_change (C := Try.checked) own started (by kernel_rfl) Try.func4
    (ChangeSpec.witness6 (enc := enc) (C := Try.checked) false ⟨#[], #[.agg #[.int .u16 0, .int .u16 0], .slice none 0 0, .bool false], []⟩ 8 (by kernel_rfl) (by kernel_rfl) (by kernel_rfl) (by kernel_rfl)) ?_
  intro W base args ds gs before hval0 hW hcnd _
  have hval : ∀ (j : Nat) t v, Try.f4.params[j]? = some t → args[j]? = some v → Value.okWide Try.prog W .any base t v := hval0
  have hW' := hW
  obtain ⟨p, q, hA0, hV, rfl, hfz, hnd⟩ := hW
  have hA : DataW.TrodAll enc Try.prog W 0 (fun _ => true) true Try.f4.params.toList args.toList ds p := hA0
  rw [Try.params4] at hA hval
  obtain ⟨v0, vs0, d0, ds0, p0, q0, hargs, rfl, rfl, h0, r0⟩ := trodAll_cons hA
  obtain ⟨v1, vs1, d1, ds1, p1, q1, rfl, rfl, rfl, h1, r1⟩ := trodAll_cons r0
  obtain ⟨v2, vs2, d2, ds2, p2, q2, rfl, rfl, rfl, h2, r2⟩ := trodAll_cons r1
  obtain ⟨rfl, rfl, rfl⟩ := trodAll_nil r2
  obtain rfl : args = #[v0, v1, v2] := by cases args; simp_all
  obtain ⟨rfl, rfl⟩ := trodVars_none hV
  obtain ⟨a0, b0, rfl, rfl, rfl, w0, x0⟩ := Go.WideMaps.open_pair pairKey Try.underlying22 (hval 0 39 v0 rfl rfl) h0
  obtain ⟨a1, len1, cap1, rfl⟩ := okWide_slice Try.underlying40 (hval 1 40 v1 rfl rfl)
  obtain ⟨c2, rfl, rfl, rfl⟩ := open_bool Try.underlying4 (hval 2 4 v2 rfl rfl) h2
  have k1 := h1
  have lt1 : ∀ x ∈ p1, x.block < W.heap.size := by obtain ⟨m, hm⟩ := k1; exact DataW.trod_lt m _ _ _ hm
  have w1 : IsBools W a1 len1 cap1 := by
    obtain ⟨fuel, hf⟩ := h1
    rcases Go.Deep.open_bools Try.underlying40 Try.underlying4 (by kernel_rfl) hf with ⟨hcs, _⟩ | ⟨x, l, c, B, hcs, _, hl, _, _, hcell⟩
    · simp [Value.cells] at hcs
      obtain ⟨rfl, rfl, rfl⟩ := hcs
      exact .inl ⟨rfl, rfl, rfl⟩
    · simp [Value.cells] at hcs
      obtain ⟨rfl, rfl, rfl⟩ := hcs
      exact .inr ⟨_, rfl, hl, fun i hi => ⟨_, hcell i hi⟩⟩
  clear hA0 hval0
  refine (walk a0 b0 a1 len1 cap1 c2 W w0 x0 w1).mono fun e W' ⟨he, bel⟩ => ?_
  subst he
  exact ⟨_, rfl, _, _, _, [], _, [], hW', trodAll_mk1 (shut_bool Try.underlying4 _), (trodAll_cons_mk (Go.WideMaps.shut_pair pairKey Try.underlying22 w0 x0) (trodAll_cons_mk (Below.trod laidOut (by kernel_rfl) (of_decide_eq_true (by kernel_rfl)) k1 bel lt1) (trodAll_cons_mk (shut_bool Try.underlying4 _) trodAll_mk0))), rfl, bel.frame _, fun h => by cases h⟩

theorem over : Rows.heapLiveRow.holds Try.pinned (OpenSpec.ofChange Rows.heapLiveSpec) :=
  OpenClaim.holds_of_wide 4 Try.f4 rfl rfl rfl rfl rfl rfl rfl ⟨rfl, rfl, rfl, rfl, rfl⟩ rfl rfl rfl rfl rfl (by kernel_rfl) Try.func4 (by kernel_rfl)
    (of_decide_eq_true (by kernel_rfl)) (by unfold Func.isWrapper; first | (rw [if_pos (by decide +kernel)]; kernel_rfl) | (rw [if_neg (by decide +kernel)]; exact ⟨rfl, rfl⟩))
    (fun os started H enc _ => lifted os started H enc)

/-- ████ THE STATEMENT ████ -/
theorem proved : Rows.HeapLiveSaid := over
#print axioms proved
end Go.Proofs.Ytlkfbmebeodbmaa.heapLive
