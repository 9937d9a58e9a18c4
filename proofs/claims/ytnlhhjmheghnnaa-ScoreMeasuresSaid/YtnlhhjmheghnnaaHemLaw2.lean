import Derived.Test.YtnlhhjmheghnnaaHemLaw
namespace Go.Hem
open Go.RowKit
variable {P : Program}
theorem okArr {w : World} {t : TypeId} {v : Value} {n : Nat} {e : TypeId} {r : _root_.Go.Reach} {b : Nat} (ht : P.underlying t = some (.array n e)) (h : Value.okWide P w r b t v) : ∃ cs, v = .agg cs := by
  simp only [Value.okWide, ht] at h
  obtain ⟨cs, h1, _⟩ := h
  exact ⟨cs, h1⟩
theorem arg_arr {H : Type} {enc : TypeId × Value → H} {w : World} {held : Bool} {spare : Nat → Bool} {t : TypeId} {v : Value} {d : DataW H} {ps : List MemPlace} {n : Nat} {e : TypeId} {r : _root_.Go.Reach} {b k : Nat} {sh : Sh} (ht : P.underlying t = some (.array n e)) (hok : Value.okWide P w r b t v)
    (hs : shOf P k t = some sh) (h : DataW.Trod enc P w 0 spare held t v d ps) : ∃ as, sh.ok as ∧ VR (start w) (.agg as) v := by
  obtain ⟨cs, rfl⟩ := okArr ht hok
  obtain ⟨fuel, hf⟩ := h
  obtain ⟨as, a1, _, _, a4⟩ := open_trod k t sh fuel _ _ hs hf
  have := VR.agg (G := start w) a4.1 a4.2
  exact ⟨as, a1, by simpa [Value.cells] using this⟩
def Pair.sh : Sh := .struct [.int .i64, .int .i64]
theorem Pair.opn {as : List AV} (h : Pair.sh.ok as) : ∃ i j : Int, as = [.sc (.int .i64 i), .sc (.int .i64 j)] ∧ IntKind.i64.min ≤ i ∧ i ≤ IntKind.i64.max ∧ IntKind.i64.min ≤ j ∧ j ≤ IntKind.i64.max := by
  simp only [Pair.sh] at h
  simp only [Sh.ok.eq_5, Sh.oks] at h
  obtain ⟨_, _, rfl, h0, _, _, rfl, h1, rfl⟩ := h
  simp only [Sh.ok] at h0
  obtain ⟨x0, rfl, a0, b0⟩ := h0
  simp only [Sh.ok] at h1
  obtain ⟨x1, rfl, a1, b1⟩ := h1
  exact ⟨x0, x1, rfl, a0, b0, a1, b1⟩
end Go.Hem
