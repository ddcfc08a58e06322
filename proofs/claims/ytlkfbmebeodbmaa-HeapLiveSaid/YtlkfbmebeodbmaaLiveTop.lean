/- The statement HeapLive: the walk of the law itself. -/
import Derived.Test.YtlkfbmebeodbmaaLiveW
set_option linter.unusedVariables false
namespace Go.Proofs.Ytlkfbmebeodbmaa
open Go.RowKit Go.Thr

theorem livetop_any (w : World) (x0 x1 : Int) (h0 : 0 ≤ x0 ∧ x0 < 65536) (h1 : 0 ≤ x1 ∧ x1 < 65536) (now : Bool) (vs : Value) (ns : Nat) (hvs : ∃ A c, vs = .slice A ns c) (hcs : ∀ wx, Only w wx → ∀ A c, vs = .slice A ns c → ∀ i, i < ns → ∃ x b, A = some x ∧ wx.cell? (x.add i) = some (.bool b)) :
    Calls Try.prog 4 #[.agg #[.int .u16 x0, .int .u16 x1], vs, .bool now] w fun e w' => e = .returned (.bool true) ∧ Only w w' := by
  have hx1 := h1.1
  have hx2 := h1.2
  have hr : x1.tmod 700 = x1 % 700 := Int.tmod_eq_emod_of_nonneg hx1
  have hask : 0 ≤ x1 % 700 ∧ x1 % 700 < 700 := by omega
  have HASK := Lib.hid hask
  have H0 := Lib.hid h0
  have HVS := Lib.hid hvs
  have HCS := Lib.hid hcs
  have hB := Lib.hid (Blk.new w 39 [.int .u16 x0, .int .u16 x1])
  clear h1 h0 hvs hcs hask
  go_enter Try.func4, Try.ntmps4
  go_wp2_with (first
    | (go_at_call 6; refine (awake_any _).mono ?_; rintro e w2 ⟨rfl, hk2⟩; have HK2 := Lib.hid (Only.of_alloc hk2); have hB2 := hB.out.kept hk2 (fun h => h); have b0 := hB2.cell 0 rfl; have b1 := hB2.cell 1 rfl; clear hk2 hB2)
    | (go_at_call 13; refine (live_law _ x0 H0.out (x1 % 700) HASK.out now vs ns HVS.out (fun wx hk => HCS.out wx (HK2.out.then hk))).mono ?_; rintro e w3 ⟨rfl, hk3⟩; have HK3 := Lib.hid (HK2.out.then hk3)))
  go_ret
  exact ⟨rfl, HK3.out⟩
end Go.Proofs.Ytlkfbmebeodbmaa
