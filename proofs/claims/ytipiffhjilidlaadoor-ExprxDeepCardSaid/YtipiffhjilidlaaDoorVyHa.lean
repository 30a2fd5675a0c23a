/- laid for this seat: VyHa -/
import Derived.Test.YtipiffhjilidlaaDoorVg7
/- Expressions of a text: brackets that are deep: plain. -/
set_option maxRecDepth 100000
set_option linter.unusedVariables false
set_option linter.unusedSimpArgs false
namespace Go.VM
open Go.RowKit
def deepS (k : Nat) : Nat → List Nat
 | 0 => [97]
 | n + 1 => match k with
  | 0 => [33] ++ deepS k n ++ []
  | 1 => [97] ++ [91] ++ deepS k n ++ [93]
  | _ => [40] ++ deepS k n ++ [41]
def deepC (k n : Nat) : Bool := match lexR (deepS k n) with
 | (T, _, 0) => match (fns (T.map toZ) 400).expr 1 0 0 with
  | .ok _ j => Nat.ble n 30 && Nat.beq (j + 1) T.length
  | .er _ _ _ c => Nat.blt 30 n && decide (c = 6)
  | .out => false
 | _ => false
def allB (f : Nat → Bool) : Nat → Bool
 | 0 => true
 | n + 1 => f n && allB f n
theorem allB_at {f : Nat → Bool} : ∀ {n i : Nat}, allB f n = true → i < n → f i = true
 | 0, i, _, h => by omega
 | n + 1, i, h, hi => by
  simp only [allB, Bool.and_eq_true] at h
  rcases Nat.lt_or_ge i n with q | q
  ·exact allB_at h.2 q
  ·rw [show i = n by omega]; exact h.1
theorem deep0 : allB (deepC 0) 70 = true := by kernel_rfl
theorem deep1_0 : allB (fun i => deepC 1 (0 + i)) 10 = true := by kernel_rfl
theorem deep1_1 : allB (fun i => deepC 1 (10 + i)) 10 = true := by kernel_rfl
theorem deep1_2 : allB (fun i => deepC 1 (20 + i)) 10 = true := by kernel_rfl
theorem deep1_3 : allB (fun i => deepC 1 (30 + i)) 10 = true := by kernel_rfl
theorem deep1_4 : allB (fun i => deepC 1 (40 + i)) 10 = true := by kernel_rfl
theorem deep1_5 : allB (fun i => deepC 1 (50 + i)) 10 = true := by kernel_rfl
theorem deep1_6 : allB (fun i => deepC 1 (60 + i)) 10 = true := by kernel_rfl
end Go.VM
