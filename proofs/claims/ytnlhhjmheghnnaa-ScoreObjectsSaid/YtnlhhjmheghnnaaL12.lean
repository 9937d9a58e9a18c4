/- Walks: known, by running it. -/
import Derived.Test.YtnlhhjmheghnnaaL11
set_option maxRecDepth 10000
namespace Go.Hem
def pures : List Nat := [14, 15, 16, 17, 18, 20, 21, 22, 23, 24, 26, 27, 28, 31, 35, 36, 37, 38, 41, 46, 49, 50, 51, 58, 59, 68, 71, 72, 79, 80, 81, 82, 96, 99, 100, 106, 113, 19]
def polS : Pol := ⟨fun f => pures.contains f⟩
def saysTrue : Option (Out × AHeap) → Bool
  | some (.val (.sc (.bool b)), _) => b
  | _ => false
theorem saysTrue_spec {r : Option (Out × AHeap)} (h : saysTrue r = true) : ∃ H, r = some (.val (.sc (.bool true)), H) := by
  unfold saysTrue at h
  split at h
  · subst h; exact ⟨_, rfl⟩
  · cases h
theorem known_run : saysTrue (run prog polS 400 (.call 19 []) {}) = true := by decide +kernel
theorem known_pv : Pv prog polS 19 [] (.sc (.bool true)) := by
  obtain ⟨H, h⟩ := saysTrue_spec known_run
  exact ⟨rfl, _, _, _, _, h, rfl, rfl⟩
end Go.Hem
