/- The law's decimal: the digits of a number. -/
import Derived.Test.YteeikpjhfdjjfaaGreatDoorProg
import Derived.WalkKit
import Derived.Below
import Derived.Laws.IdiomStrings
import Derived.Deep.RegionWith
import Derived.Deep.QuietTactic
set_option linter.unusedVariables false
set_option linter.unusedSimpArgs false
namespace Go.Hem
/-- The digits of a number,by so many rounds. -/
def decF : Nat→Nat→List UInt8
  | 0,_ => []
  | k + 1,u => if u < 10 then [UInt8.ofNat (48 + u)] else decF k (u / 10) ++ [UInt8.ofNat (48 + u % 10)]
end Go.Hem
namespace Go.Proofs.Ins
open Go.RowKit Go.Hem
set_option maxRecDepth 100000
theorem wrap64' {a : Int} (h1 : -9223372036854775808 ≤ a) (h2 : a ≤ 9223372036854775807) : IntKind.i64.wrap a = a:=by
  simp only [IntKind.wrap,IntKind.bits,IntKind.signed]
  simp
  omega
theorem wrap8' {a : Int} (h1 : 0 ≤ a) (h2 : a ≤ 255) : IntKind.u8.wrap a = a:=by
  simp only [IntKind.wrap,IntKind.bits,IntKind.signed]
  simp
  omega
theorem dig_toNat' {d : Nat} (h : d < 10) : (UInt8.ofNat (48 + d)).toNat = 48 + d:=by
  rw [UInt8.toNat_ofNat']; omega
theorem conv_d (d : Int) (h0 : 0 ≤ d) (h1 : d < 10) (w : World) (b : Nat) (hb : w.cell? ⟨b,0,none⟩ = some (.int .u8 (48 + d))) : (convert 68 9 (.slice (some ⟨b,0,none⟩) 1 1)).run Tryz.prog w = .ok (.string ⟨#[UInt8.ofNat (48 + d.toNat)]⟩) w:=by
  refine run_convert_bytes_back _ 68 9 5 ⟨b,0,none⟩ 1 [UInt8.ofNat (48 + d.toNat)] Tryz.underlying68 Tryz.underlying5 Tryz.underlying9 ?_
  intro j hj
  obtain rfl : j = 0:=by simpa using hj
  rw [show (⟨b,0,none⟩ : Addr).add 0 = ⟨b,0,none⟩ from rfl,hb]
  show some (Value.int .u8 (48 + d)) = some (Value.int .u8 ((UInt8.ofNat (48 + d.toNat)).toNat : Int))
  rw [dig_toNat' (by omega)]
  congr 2
  omega
theorem cell_new (v : Value) (w : World) (b : Nat) (hb : b = w.heap.size) : (w.alloc (.cells #[v] 5)).cell? ⟨b,0,none⟩ = some v:=by
  subst hb
  have e : (w.alloc (.cells #[v] 5)).heap[w.heap.size]? = some (.cells #[v] 5):=Array.getElem?_push_size
  show (match (w.alloc (.cells #[v] 5)).heap[w.heap.size]? with | some (.cells c _ _) => (if (none : Option _).isSome = true then none else c[0]?) | _ => none) = _
  rw [e]; rfl
theorem cell_new' (v : Value) (w : World) (b : Nat) (hb : b = w.heap.size) : (w.alloc (.cells #[v] 5)).drew.cell? ⟨b,0,none⟩ = some v:=cell_new v w b hb
theorem cell_old (v : Value) {w w' : World} {b : Nat} (hb : b = w.heap.size) (hB : Below (w.alloc (.cells #[v] 5)).drew.heap.size (w.alloc (.cells #[v] 5)).drew w') : w'.cell? ⟨b,0,none⟩ = some v:=by
  rw [← cell_new v w b hb]
  exact hB.cell (p:=⟨b,0,none⟩) (by subst hb; show w.heap.size < (w.heap.push _).size; rw [Array.size_push]; omega)
theorem dec_small (n : Int) (h0 : 0 ≤ n) (h1 : n < 10) (w : World) : Calls Tryz.prog 12 #[.int .i64 n] w fun e w' => e = .returned (.string ⟨#[UInt8.ofNat (48 + n.toNat)]⟩)∧Below w.heap.size w w':=by
  have hn : ¬ n < 0:=by omega
  have h:=conv_d n h0 h1 (w.alloc (.cells #[.int .u8 (48 + n)] 5)) w.heap.size (by
    have e : (w.alloc (.cells #[.int .u8 (48 + n)] 5)).heap[w.heap.size]? = some (.cells #[.int .u8 (48 + n)] 5):=Array.getElem?_push_size
    show (match (w.alloc (.cells #[.int .u8 (48 + n)] 5)).heap[w.heap.size]? with | some (.cells c _ _) => (if (none : Option _).isSome = true then none else c[0]?) | _ => none) = _
    rw [e]; rfl)
  go_enter Tryz.func12,Tryz.ntmps12
  go_wp2_with (rw [h])
  go_ret
  exact ⟨rfl,(Below.refl _ w).alloc (Nat.le_refl _) _⟩
theorem decF_le : ∀ k u,(decF k u).length ≤ k
  | 0,_ => Nat.le_refl _
  | k + 1,u => by
    simp only [decF]
    split
    · simp
    · have:=decF_le k (u / 10)
      simp; omega
theorem dec_nat (k : Nat) : k < 100→∀ (n : Int) (w : World),0 ≤ n→n < (10 : Int) ^ (k + 1)→n ≤ 9223372036854775807→Calls Tryz.prog 12 #[.int .i64 n] w fun e w' => e = .returned (.string ⟨(decF (k + 1) n.toNat).toArray⟩)∧Below w.heap.size w w':=by
  induction k with
  | zero =>
    intro hk n w h0 h1 h2
    have h10 : n.toNat < 10:=by omega
    rw [show decF (0 + 1) n.toNat = [UInt8.ofNat (48 + n.toNat)] from if_pos h10]
    exact dec_small n h0 (by omega) w
  | succ k ih =>
    intro hk n w h0 h1 h2
    by_cases h10 : n < 10
    · rw [show decF (k + 1 + 1) n.toNat = [UInt8.ofNat (48 + n.toNat)] from if_pos (by omega)]
      exact dec_small n h0 h10 w
    · have hn : ¬ n < 0:=by omega
      have hp : (10 : Int) ^ (k + 1 + 1) = 10 ^ (k + 1) * 10:=Int.pow_succ ..
      have hq : n / 10 < 10 ^ (k + 1):=by omega
      have ih1:=fun w => ih (by omega) (n / 10) w (by omega) hq (by omega)
      go_enter Tryz.func12,Tryz.ntmps12
      go_wp2_with fail
      have hw : IntKind.i64.wrap (n.tdiv 10) = n / 10:=by
        rw [Int.tdiv_eq_ediv_of_nonneg hn]
        exact wrap64' (by omega) (by omega)
      have hl : ¬ 9223372036854775807 < (decF (k + 1) (n / 10).toNat).length + 1:=by have:=decF_le (k + 1) (n / 10).toNat; omega
      have hfin : ((⟨(decF (k + 1) (n / 10).toNat).toArray⟩ : ByteArray) ++ ⟨#[48 + UInt8.ofNat (n % 10).toNat]⟩) = ⟨(decF (k + 1 + 1) n.toNat).toArray⟩:=by
        rw [show decF (k + 1 + 1) n.toNat = decF (k + 1) (n.toNat / 10) ++ [UInt8.ofNat (48 + n.toNat % 10)] from if_neg (by omega)]
        rw [show n.toNat / 10 = (n / 10).toNat by omega,show n.toNat % 10 = (n % 10).toNat by omega,UInt8.ofNat_add]
        apply ByteArray.ext
        simp
      have h5 : 0 ≤ n % 10:=by omega
      have h6 : n % 10 < 10:=by omega
      have hm : n.tmod 10 = n % 10:=Int.tmod_eq_emod_of_nonneg hn
      have hw2 : IntKind.i64.wrap (48 + n % 10) = 48 + n % 10:=wrap64' (by omega) (by omega)
      have hw3 : IntKind.u8.wrap (48 + n % 10) = 48 + n % 10:=wrap8' (by omega) (by omega)
      go_region_with (first | (go_at_call 12; refine (ih1 _).mono ?_; rintro e w' ⟨rfl,hB⟩) | (rw [conv_d (n % 10) h5 h6 _ _ (cell_new _ _ _ rfl)]) | (rw [conv_d (n % 10) h5 h6 _ _ (cell_new' _ _ _ rfl)]) | (rw [conv_d (n % 10) h5 h6 _ _ (cell_old _ rfl hB)]))
      all_goals (go_wp2_with fail; go_ret)
      all_goals refine ⟨rfl,?_⟩
      all_goals first
        | exact (((Below.refl _ w).drew).trans hB).alloc hB.size _
        | exact (((Below.refl _ w).alloc (Nat.le_refl _) _).drew).trans (hB.mono (by show w.heap.size ≤ (w.heap.push _).size; rw [Array.size_push]; omega))
/-- The law's decimal. -/
theorem dec_any (n : Int) (h0 : -9223372036854775807 ≤ n) (h1 : n ≤ 9223372036854775807) (w : World) : Calls Tryz.prog 12 #[.int .i64 n] w fun e w' => e = .returned (.string ⟨(if n < 0 then 45 :: decF 20 n.natAbs else decF 20 n.toNat).toArray⟩)∧Below w.heap.size w w':=by
  by_cases hn : n < 0
  · rw [if_pos hn]
    have hw : IntKind.i64.wrap (-n) = -n:=wrap64' (by omega) (by omega)
    have hw' : IntKind.i64.wrap (0 - n) = -n:=by rw [show 0 - n = -n by omega]; exact hw
    have ih:=fun w => dec_nat 19 (by omega) (-n) w (by omega) (by omega) (by omega)
    have hl : ¬ 9223372036854775807 < 1 + (decF 20 (-n).toNat).length:=by have:=decF_le 20 (-n).toNat; omega
    go_enter Tryz.func12,Tryz.ntmps12
    go_wp2_with (go_at_call 12; refine (ih _).mono ?_; rintro e w' ⟨rfl,hB⟩)
    go_ret
    refine ⟨?_,hB⟩
    have e : ((⟨#[45]⟩ : ByteArray) ++ ⟨(decF 20 (-n).toNat).toArray⟩) = ⟨(45 :: decF 20 n.natAbs).toArray⟩:=by
      rw [show (-n).toNat = n.natAbs by omega]
      apply ByteArray.ext
      simp
    exact congrArg (fun x => Ending.returned (Value.string x)) e
  · rw [if_neg hn]
    exact dec_nat 19 (by omega) n w (by omega) (by omega) h1
end Go.Proofs.Ins
