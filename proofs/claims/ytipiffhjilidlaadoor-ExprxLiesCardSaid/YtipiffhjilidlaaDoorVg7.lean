/- laid for this seat: RcXl VyA VyB VyC VyD VyE VyF VyG -/
import Derived.Test.YtipiffhjilidlaaDoorVmR
import Derived.Test.YtipiffhjilidlaaDoorProg
import Derived.ProofKit
import Derived.Test.YtipiffhjilidlaaDoorVg6
import Derived.Test.YtipiffhjilidlaaDoorVg2
section
set_option maxRecDepth 100000
namespace Go.VM
open Go.RowKit
def rc4 : RC := .seq (.reg [.op (.mv (.c (.bool false))) 2]) (.seq (.reg [.op (.call (.c (.fn (.func 11) [] [])) []) 10, .mv 10 3]) (.seq (.reg [.mv 0 12, .op (.call (.c (.fn (.func 12) [] [])) [.t 12]) 13, .mv 13 11, .op (.ext (.t 11) 0) 14, .op (.ext (.t 11) 1) 15, .op (.al [.int .i64 0, .int .i64 0]) 5, .mv 14 4, ⟨0, 0, some (.st (.t 5) (.t 15) 2), [], none, none⟩]) (.seq (.seq (.reg [.op (.fa (.t 5) 1) 16, .op (.ld (.t 16) none) 17, .op (.eq .int true (.t 17) (.c (.int .i64 0))) 18]) (.cond (.t 18) (.seq (.reg [.mv 3 19, .mv 19 2]) .ret) .skip)) (.seq (.reg [.mv 4 21, .op (.call (.c (.fn (.func 13) [] [])) [.t 21, .c (.int .i64 0)]) 22, .mv 22 20, .op (.ext (.t 20) 0) 23, .op (.ext (.t 20) 1) 24, .op (.ext (.t 20) 2) 25, .op (.al [.int .i64 0, .int .i64 0, .int .i64 0, .str [], .int .i64 0, .int .i64 0, .int .i64 0, .str [], .str [], .lst [] (.ex 0), .lst [] (.ex 0)]) 6, .op (.al [.int .i64 0, .int .i64 0]) 8, ⟨0, 0, some (.st (.t 6) (.t 23) 11), [], none, none⟩, .mv 24 7, ⟨0, 0, some (.st (.t 8) (.t 25) 2), [], none, none⟩]) (.seq (.seq (.reg [.op (.fa (.t 8) 1) 26, .op (.ld (.t 26) none) 27, .op (.eq .int true (.t 27) (.c (.int .i64 0))) 28]) (.cond (.t 28) (.seq (.reg [.mv 3 29, .mv 29 30, ⟨0, 0, some (.mv (.t 7)), [], some 31, some (30, true)⟩, ⟨0, 0, some (.eq .int false (.t 31) (.c (.int .i64 0))), [], some 32, some (30, true)⟩, .op (.pick (.t 30) (.t 32) (.c (.bool false))) 33, .mv 33 34, ⟨0, 0, some (.fa (.t 6) 0), [], some 35, some (34, true)⟩, ⟨0, 0, some (.ld (.t 35) none), [], some 36, some (34, true)⟩, ⟨0, 0, some (.eq .int false (.t 36) (.c (.int .i64 0))), [], some 37, some (34, true)⟩, .op (.pick (.t 34) (.t 37) (.c (.bool false))) 38, .mv 38 39, ⟨0, 0, some (.fa (.t 8) 0), [], some 40, some (39, true)⟩, ⟨0, 0, some (.ld (.t 40) none), [], some 41, some (39, true)⟩, ⟨0, 0, some (.bin .geq (.t 41) (.c (.int .i64 0))), [], some 42, some (39, true)⟩, .op (.pick (.t 39) (.t 42) (.c (.bool false))) 43, .mv 43 44, ⟨0, 0, some (.fa (.t 8) 0), [], some 45, some (44, true)⟩, ⟨0, 0, some (.ld (.t 45) none), [], some 46, some (44, true)⟩, ⟨0, 0, some (.mv (.t 0)), [], some 47, some (44, true)⟩, ⟨0, 0, some (.lenS (.t 47)), [], some 48, some (44, true)⟩, ⟨0, 0, some (.bin .leq (.t 46) (.t 48)), [], some 49, some (44, true)⟩, .op (.pick (.t 44) (.t 49) (.c (.bool false))) 50, .mv 50 2]) .ret) .skip)) (.seq (.seq (.dreg [⟨0, 0, some (.mv (.t 7)), [7], some 51, none⟩, ⟨1, 1, some (.bin .lss (.t 51) (.c (.int .i64 1))), [51], some 52, none⟩, ⟨2, 3, some (.mv (.t 52)), [52], some 53, none⟩, ⟨3, 7, some (.mv (.t 7)), [7, 53], some 54, some (53, false)⟩, ⟨4, 7, some (.mv (.t 4)), [4, 53], some 55, some (53, false)⟩, ⟨5, 23, some (.lenL (.t 55)), [55, 53], some 56, some (53, false)⟩, ⟨6, 63, some (.bin .geq (.t 54) (.t 56)), [54, 56, 53], some 57, some (53, false)⟩, ⟨7, 127, some (.pick (.t 53) (.c (.bool true)) (.t 57)), [53, 57], some 58, none⟩, ⟨8, 255, some (.mv (.t 58)), [58], some 59, none⟩, ⟨9, 511, some (.fa (.t 6) 1), [6, 59], some 60, some (59, false)⟩, ⟨10, 1023, some (.ld (.t 60) none), [60, 59], some 61, some (59, false)⟩, ⟨11, 511, some (.mv (.t 4)), [4, 59], some 62, some (59, false)⟩, ⟨12, 2559, some (.ia (.t 62) (.c (.int .i64 0)) 4), [62, 59], some 63, some (59, false)⟩, ⟨13, 6655, some (.fa (.t 63) 1), [63, 59], some 64, some (59, false)⟩, ⟨14, 14847, some (.ld (.t 64) none), [64, 59], some 65, some (59, false)⟩, ⟨15, 32767, some (.bin .lss (.t 61) (.t 65)), [61, 65, 59], some 66, some (59, false)⟩, ⟨16, 65535, some (.pick (.t 59) (.c (.bool true)) (.t 66)), [59, 66], some 67, none⟩, ⟨17, 131071, some (.mv (.t 67)), [67], some 68, none⟩, ⟨18, 262143, some (.fa (.t 6) 2), [6, 68], some 69, some (68, false)⟩, ⟨19, 524287, some (.ld (.t 69) none), [69, 68], some 70, some (68, false)⟩, ⟨20, 262143, some (.mv (.t 4)), [4, 68], some 71, some (68, false)⟩, ⟨21, 262143, some (.mv (.t 7)), [7, 68], some 72, some (68, false)⟩, ⟨22, 2359295, some (.bin .sub (.t 72) (.c (.int .i64 1))), [72, 68], some 73, some (68, false)⟩, ⟨23, 7602175, some (.ia (.t 71) (.t 73) 4), [71, 73, 68], some 74, some (68, false)⟩, ⟨24, 15990783, some (.fa (.t 74) 2), [74, 68], some 75, some (68, false)⟩, ⟨25, 32767999, some (.ld (.t 75) none), [75, 68], some 76, some (68, false)⟩, ⟨26, 67108863, some (.bin .gtr (.t 70) (.t 76)), [70, 76, 68], some 77, some (68, false)⟩, ⟨27, 134217727, some (.pick (.t 68) (.c (.bool true)) (.t 77)), [68, 77], some 78, none⟩, ⟨28, 268435455, some (.mv (.t 78)), [78], some 79, none⟩, ⟨29, 536870911, some (.fa (.t 6) 2), [6, 79], some 80, some (79, false)⟩, ⟨30, 1073741823, some (.ld (.t 80) none), [80, 79], some 81, some (79, false)⟩, ⟨31, 536870911, some (.fa (.t 6) 1), [6, 79], some 82, some (79, false)⟩, ⟨32, 2684354559, some (.ld (.t 82) none), [82, 79], some 83, some (79, false)⟩, ⟨33, 8589934591, some (.bin .leq (.t 81) (.t 83)), [81, 83, 79], some 84, some (79, false)⟩, ⟨34, 17179869183, some (.pick (.t 79) (.c (.bool true)) (.t 84)), [79, 84], some 85, none⟩] [] [51, 52, 53, 54, 55, 56, 57, 58, 59, 60, 61, 62, 63, 64, 65, 66, 67, 68, 69, 70, 71, 72, 73, 74, 75, 76, 77, 78, 79, 80, 81, 82, 83, 84, 85]) (.cond (.t 85) (.seq (.reg [.op (.mv (.c (.bool false))) 2]) .ret) .skip)) (.seq (.reg [.op (.ld (.t 6) (some 11)) 86, .op (.call (.c (.fn (.func 14) [] [])) [.t 86]) 87, .mv 87 9]) (.seq (.reg [.mv 3 88, .mv 88 89, ⟨0, 0, some (.mv (.t 9)), [], some 90, some (89, true)⟩, .op (.pick (.t 89) (.t 90) (.c (.bool false))) 91, .mv 91 2]) .ret))))))))
theorem res4 : (Go.Proofs.Tryd.f4.body).bind (resC Go.Proofs.Tryd.prog) = some rc4 := by kernel_rfl
def rc11 : RC := .seq (.reg [.op (.mv (.c (.bool false))) 0]) (.seq (.reg [.op (.call (.c (.fn (.func 12) [] [])) [.c (.str [97, 43, 98, 42, 99, 59])]) 12, .mv 12 11, .op (.ext (.t 11) 0) 13, .op (.ext (.t 11) 1) 14, .op (.al [.int .i64 0, .int .i64 0]) 2, .mv 13 1, ⟨0, 0, some (.st (.t 2) (.t 14) 2), [], none, none⟩]) (.seq (.reg [.mv 1 16, .op (.call (.c (.fn (.func 13) [] [])) [.t 16, .c (.int .i64 0)]) 17, .mv 17 15, .op (.ext (.t 15) 0) 18, .op (.ext (.t 15) 1) 19, .op (.ext (.t 15) 2) 20, .op (.al [.int .i64 0, .int .i64 0, .int .i64 0, .str [], .int .i64 0, .int .i64 0, .int .i64 0, .str [], .str [], .lst [] (.ex 0), .lst [] (.ex 0)]) 3, .op (.al [.int .i64 0, .int .i64 0]) 5, ⟨0, 0, some (.st (.t 3) (.t 18) 11), [], none, none⟩, .mv 19 4, ⟨0, 0, some (.st (.t 5) (.t 20) 2), [], none, none⟩]) (.seq (.reg [.op (.call (.c (.fn (.func 12) [] [])) [.c (.str [102, 40, 44, 41])]) 22, .mv 22 21, .op (.ext (.t 21) 0) 23, .op (.ext (.t 21) 1) 24, .op (.al [.int .i64 0, .int .i64 0]) 7, .mv 23 6, ⟨0, 0, some (.st (.t 7) (.t 24) 2), [], none, none⟩]) (.seq (.reg [.mv 6 26, .op (.call (.c (.fn (.func 13) [] [])) [.t 26, .c (.int .i64 0)]) 27, .mv 27 25, .op (.ext (.t 25) 0) 28, .op (.ext (.t 25) 1) 29, .op (.ext (.t 25) 2) 30, .op (.al [.int .i64 0, .int .i64 0, .int .i64 0, .str [], .int .i64 0, .int .i64 0, .int .i64 0, .str [], .str [], .lst [] (.ex 0), .lst [] (.ex 0)]) 8, .op (.al [.int .i64 0, .int .i64 0]) 10, ⟨0, 0, some (.st (.t 8) (.t 28) 11), [], none, none⟩, .mv 29 9, ⟨0, 0, some (.st (.t 10) (.t 30) 2), [], none, none⟩]) (.seq (.seq (.reg [.op (.fa (.t 3) 10) 31, .op (.ld (.t 31) none) 32, .op (.lenL (.t 32)) 33, .op (.eq .int true (.t 33) (.c (.int .i64 2))) 34, .mv 34 35, ⟨0, 0, some (.fa (.t 3) 10), [], some 36, some (35, false)⟩, ⟨0, 0, some (.ld (.t 36) none), [], some 37, some (35, false)⟩, ⟨0, 0, some (.ia (.t 37) (.c (.int .i64 1)) 11), [], some 38, some (35, false)⟩, ⟨0, 0, some (.fa (.t 38) 10), [], some 39, some (35, false)⟩, ⟨0, 0, some (.ld (.t 39) none), [], some 40, some (35, false)⟩, ⟨0, 0, some (.lenL (.t 40)), [], some 41, some (35, false)⟩, ⟨0, 0, some (.eq .int true (.t 41) (.c (.int .i64 2))), [], some 42, some (35, false)⟩, .op (.pick (.t 35) (.c (.bool true)) (.t 42)) 43]) (.cond (.t 43) (.seq (.reg [.op (.mv (.c (.bool false))) 0]) .ret) .skip)) (.seq (.reg [.op (.fa (.t 3) 0) 44, .op (.ld (.t 44) none) 45, .op (.eq .int false (.t 45) (.c (.int .i64 9))) 46, .mv 46 47, ⟨0, 0, some (.fa (.t 3) 3), [], some 48, some (47, true)⟩, ⟨0, 0, some (.ld (.t 48) none), [], some 49, some (47, true)⟩, ⟨0, 0, some (.eq .str false (.t 49) (.c (.str [43]))), [], some 50, some (47, true)⟩, .op (.pick (.t 47) (.t 50) (.c (.bool false))) 51, .mv 51 52, ⟨0, 0, some (.fa (.t 3) 2), [], some 53, some (52, true)⟩, ⟨0, 0, some (.ld (.t 53) none), [], some 54, some (52, true)⟩, ⟨0, 0, some (.eq .int false (.t 54) (.c (.int .i64 5))), [], some 55, some (52, true)⟩, .op (.pick (.t 52) (.t 55) (.c (.bool false))) 56, .mv 56 57, ⟨0, 0, some (.fa (.t 3) 10), [], some 58, some (57, true)⟩, ⟨0, 0, some (.ld (.t 58) none), [], some 59, some (57, true)⟩, ⟨0, 0, some (.ia (.t 59) (.c (.int .i64 1)) 11), [], some 60, some (57, true)⟩, ⟨0, 0, some (.fa (.t 60) 3), [], some 61, some (57, true)⟩, ⟨0, 0, some (.ld (.t 61) none), [], some 62, some (57, true)⟩, ⟨0, 0, some (.eq .str false (.t 62) (.c (.str [42]))), [], some 63, some (57, true)⟩, .op (.pick (.t 57) (.t 63) (.c (.bool false))) 64, .mv 64 65, ⟨0, 0, some (.fa (.t 3) 10), [], some 66, some (65, true)⟩, ⟨0, 0, some (.ld (.t 66) none), [], some 67, some (65, true)⟩, ⟨0, 0, some (.ia (.t 67) (.c (.int .i64 1)) 11), [], some 68, some (65, true)⟩, ⟨0, 0, some (.fa (.t 68) 10), [], some 69, some (65, true)⟩, ⟨0, 0, some (.ld (.t 69) none), [], some 70, some (65, true)⟩, ⟨0, 0, some (.ia (.t 70) (.c (.int .i64 0)) 11), [], some 71, some (65, true)⟩, ⟨0, 0, some (.fa (.t 71) 3), [], some 72, some (65, true)⟩, ⟨0, 0, some (.ld (.t 72) none), [], some 73, some (65, true)⟩, ⟨0, 0, some (.eq .str false (.t 73) (.c (.str [98]))), [], some 74, some (65, true)⟩, .op (.pick (.t 65) (.t 74) (.c (.bool false))) 75, .mv 75 76, ⟨0, 0, some (.mv (.t 4)), [], some 77, some (76, true)⟩, ⟨0, 0, some (.eq .int false (.t 77) (.c (.int .i64 5))), [], some 78, some (76, true)⟩, .op (.pick (.t 76) (.t 78) (.c (.bool false))) 79, .mv 79 80, ⟨0, 0, some (.ld (.t 5) (some 2)), [], some 81, some (80, true)⟩, ⟨0, 0, some (.bld [.int .i64 0, .int .i64 0] [(0, 1), (1, 1)] []), [], some 82, some (80, true)⟩, ⟨0, 0, some (.eq (.st [(0, .int), (1, .int)]) false (.t 81) (.t 82)), [], some 83, some (80, true)⟩, .op (.pick (.t 80) (.t 83) (.c (.bool false))) 84, .mv 84 85, ⟨0, 0, some (.ld (.t 10) (some 2)), [], some 86, some (85, true)⟩, ⟨0, 0, some (.bld [.int .i64 0, .int .i64 0] [(0, 1), (1, 1)] [(0, .c (.int .i64 2)), (1, .c (.int .i64 5))]), [], some 87, some (85, true)⟩, ⟨0, 0, some (.eq (.st [(0, .int), (1, .int)]) false (.t 86) (.t 87)), [], some 88, some (85, true)⟩, .op (.pick (.t 85) (.t 88) (.c (.bool false))) 89, .mv 89 0]) .ret))))))
theorem res11 : (Go.Proofs.Tryd.f11.body).bind (resC Go.Proofs.Tryd.prog) = some rc11 := by kernel_rfl
def rc14_J1 : RC := .reg [.mv 4 14, .op (.bin .add (.t 14) (.c (.int .i64 1))) 15, .mv 15 4]
def rc14_L1 : RC := .seq (.seq (.reg [.mv 4 9, .op (.fa (.t 1) 10) 10, .op (.ld (.t 10) none) 11, .op (.lenL (.t 11)) 12, .op (.bin .lss (.t 9) (.t 12)) 13]) (.cond (.t 13) .skip (.exit 0))) (.seq (.block 1 (.seq (.reg [.op (.fa (.t 1) 10) 16, .op (.ld (.t 16) none) 17, .mv 4 18, .op (.ia (.t 17) (.t 18) 11) 19, .op (.ld (.t 19) (some 11)) 20, .op (.al [.int .i64 0, .int .i64 0, .int .i64 0, .str [], .int .i64 0, .int .i64 0, .int .i64 0, .str [], .str [], .lst [] (.ex 0), .lst [] (.ex 0)]) 5, ⟨0, 0, some (.st (.t 5) (.t 20) 11), [], none, none⟩]) (.seq (.reg [.op (.ld (.t 5) (some 11)) 21, .op (.call (.c (.fn (.func 14) [] [])) [.t 21]) 22, .mv 22 6]) (.seq (.seq (.reg [.mv 6 23, .op (.un .not (.t 23)) 24, .mv 24 25, ⟨0, 0, some (.fa (.t 5) 1), [], some 26, some (25, false)⟩, ⟨0, 0, some (.ld (.t 26) none), [], some 27, some (25, false)⟩, ⟨0, 0, some (.mv (.t 3)), [], some 28, some (25, false)⟩, ⟨0, 0, some (.bin .lss (.t 27) (.t 28)), [], some 29, some (25, false)⟩, .op (.pick (.t 25) (.c (.bool true)) (.t 29)) 30, .mv 30 31, ⟨0, 0, some (.fa (.t 5) 2), [], some 32, some (31, false)⟩, ⟨0, 0, some (.ld (.t 32) none), [], some 33, some (31, false)⟩, ⟨0, 0, some (.fa (.t 1) 2), [], some 34, some (31, false)⟩, ⟨0, 0, some (.ld (.t 34) none), [], some 35, some (31, false)⟩, ⟨0, 0, some (.bin .gtr (.t 33) (.t 35)), [], some 36, some (31, false)⟩, .op (.pick (.t 31) (.c (.bool true)) (.t 36)) 37, .mv 37 38, ⟨0, 0, some (.fa (.t 5) 2), [], some 39, some (38, false)⟩, ⟨0, 0, some (.ld (.t 39) none), [], some 40, some (38, false)⟩, ⟨0, 0, some (.fa (.t 5) 1), [], some 41, some (38, false)⟩, ⟨0, 0, some (.ld (.t 41) none), [], some 42, some (38, false)⟩, ⟨0, 0, some (.bin .leq (.t 40) (.t 42)), [], some 43, some (38, false)⟩, .op (.pick (.t 38) (.c (.bool true)) (.t 43)) 44]) (.cond (.t 44) (.seq (.reg [.op (.mv (.c (.bool false))) 2]) .ret) .skip)) (.reg [.op (.fa (.t 5) 2) 45, .op (.ld (.t 45) none) 46, .mv 46 3]))))) rc14_J1)
def rc14_J2 : RC := .seq (.reg [.op (.mv (.c (.bool true))) 2]) .ret
def rc14 : RC := .seq (.reg [.op (.bx (.t 0)) 1, .op (.mv (.c (.bool false))) 2]) (.seq (.reg [.op (.fa (.t 1) 1) 7, .op (.ld (.t 7) none) 8, .mv 8 3]) (.seq (.seq (.reg [.op (.mv (.c (.int .i64 0))) 4]) (.block 0 (.loop rc14_L1))) rc14_J2))
theorem res14 : (Go.Proofs.Tryd.f14.body).bind (resC Go.Proofs.Tryd.prog) = some rc14 := by kernel_rfl
end Go.VM
end
section
/- Expressions of a text: the tokens of a text lie one behind the other. -/
set_option maxRecDepth 100000
set_option linter.unusedVariables false
set_option linter.unusedSimpArgs false
namespace Go.VM
open Go.RowKit
def toZ (t : Tk) : Tz := ⟨t.kind, t.a, t.e, t.text⟩
theorem encTks_Z (l : List Tk) : l.map encTk = (l.map toZ).map encTz := by rw [List.map_map]; rfl
theorem tokF_a {s : List Nat} {i c : Nat} (h : (tokF s i c).2 = 0) : (tokF s i c).1.a = i ∧ (tokF s i c).1.kind ≤ 5 := by
 cases hL : letterB c with
 | true =>
  rw [tokF_letter hL]
  refine ⟨rfl, ?_⟩
  dsimp only
  split <;> decide
 | false =>
 cases hD : digitB c with
 | true => rw [tokF_digit hL hD]; exact ⟨rfl, by show 2 ≤ 5; decide⟩
 | false =>
 by_cases h34 : c = 34
 ·rw [tokF_quot hL hD h34] at h ⊢
  unfold quotF at h ⊢
  split at h
  ·cases h
  ·exact ⟨rfl, by show 3 ≤ 5; decide⟩
 cases hp : (pfxB (s.drop i) [61, 61] || pfxB (s.drop i) [38, 38]) with
 | true => rw [tokF_two hL hD h34 hp]; exact ⟨rfl, by show 4 ≤ 5; decide⟩
 | false => rw [tokF_one hL hD h34 hp]; exact ⟨rfl, by show 4 ≤ 5; decide⟩
def Tl (N : Nat) : Nat → List Tk → Prop
 | _, [] => False
 | i, [t] => t = ⟨0, N, N, []⟩ ∧ i ≤ N
 | i, t :: u :: r => i ≤ t.a ∧ t.a < t.e ∧ t.e ≤ N ∧ t.text.length ≤ N ∧ Tl N t.e (u :: r)
theorem Tl.cons {N i : Nat} {t : Tk} {r : List Tk} (h1 : i ≤ t.a) (h2 : t.a < t.e) (h3 : t.e ≤ N) (h4 : t.text.length ≤ N) (h : Tl N t.e r) : Tl N i (t :: r) := by
 cases r with
 | nil => exact h.elim
 | cons u r => exact ⟨h1, h2, h3, h4, h⟩
theorem Tl.le {N i j : Nat} {r : List Tk} (h : Tl N i r) (hj : j ≤ i) : Tl N j r := by
 match r, h with
 | [t], h => exact ⟨h.1, Nat.le_trans hj h.2⟩
 | t :: u :: r, h => exact ⟨Nat.le_trans hj h.1, h.2⟩
theorem lexL_tl (s : List Nat) : ∀ (m i : Nat) (l T : List Tk) (x : Nat), i ≤ s.length → s.length + 1 ≤ m + i → lexL s m i l = (T, x, 0) → ∃ r, T = l ++ r ∧ Tl s.length i r := by
 intro m
 induction m with
 | zero => intro i l T x h1 h2; omega
 | succ m ih =>
  intro i l T x h1 h2 h
  simp only [lexL] at h
  cases hc : s[i]? with
  | none =>
   rw [hc] at h
   cases h
   have : s.length ≤ i := List.getElem?_eq_none_iff.1 hc
   exact ⟨[endTk s], rfl, rfl, h1⟩
  | some c =>
   rw [hc] at h
   simp only [tokW] at h
   split at h
   ·rename_i t ht
    have h0 : (tokF s i c).1 = t := by rw [Prod.mk.injEq] at ht; exact ht.1
    have hz : (tokF s i c).2 = 0 := by
     rw [Prod.mk.injEq] at ht
     have h2 := ht.2
     split at h2
     ·cases h2
     ·exact h2
    have hp := tokF_pos hc hz
    have ha := tokF_a hz
    rw [h0] at hp ha
    obtain ⟨r, hr, htl⟩ := ih _ _ _ _ (skipF_le s _ _ hp.2.1) (by have := skipF_ge s (s.length + 1) t.e; omega) h
    refine ⟨{ t with text := (s.drop i).take (t.e - i) } :: r, by rw [hr]; simp, ?_⟩
    refine Tl.cons (by show i ≤ t.a; omega) (by show t.a < t.e; omega) hp.2.1 ?_ (htl.le (skipF_ge s _ _))
    show ((s.drop i).take (t.e - i)).length ≤ _
    rw [List.length_take, List.length_drop]
    omega
   ·rename_i h3; cases h
theorem lexR_tl {s : List Nat} {T : List Tk} {x : Nat} (h : lexR s = (T, x, 0)) : Tl s.length 0 T := by
 obtain ⟨r, hr, ht⟩ := lexL_tl s _ _ _ _ _ (skipF_le s _ _ (Nat.zero_le _)) (by omega) h
 rw [hr]
 exact ht.le (Nat.zero_le _)
structure GoodT (N : Nat) (l : List Tz) : Prop where
 pos : 1 ≤ l.length
 last : ∀ t, l[l.length - 1]? = some t → t = ⟨0, N, N, []⟩
 tok : ∀ i t, l[i]? = some t → i + 1 < l.length → 0 ≤ t.a ∧ t.a < t.e ∧ t.e ≤ (N : Int) ∧ t.t.length ≤ N
 next : ∀ i t u, l[i]? = some t → l[i + 1]? = some u → t.e ≤ u.a
theorem Tl.good {N : Nat} : ∀ {i : Nat} {r : List Tk}, Tl N i r → GoodT N (r.map toZ) ∧ ∀ t, (r.map toZ)[0]? = some t → (i : Int) ≤ t.a
 | i, [t], h => by
  obtain ⟨rfl, h2⟩ := h
  refine ⟨⟨Nat.le_refl _, fun t ht => by simpa [toZ] using ht.symm, fun j t ht hj => ?_, fun j t u ht hu => ?_⟩, fun t ht => ?_⟩
  ·simp at hj
  ·simp at hu
  ·simp [toZ] at ht
   subst ht
   show (i : Int) ≤ (N : Int)
   omega
 | i, t :: u :: r, h => by
  obtain ⟨h1, h2, h3, h4, h5⟩ := h
  obtain ⟨g, g0⟩ := Tl.good h5
  refine ⟨⟨by simp, fun x hx => ?_, fun j x hx hj => ?_, fun j x y hx hy => ?_⟩, fun x hx => ?_⟩
  ·refine g.last x ?_
   have e : ((t :: u :: r).map toZ).length - 1 = (((u :: r).map toZ).length - 1) + 1 := by simp
   rw [e, List.map_cons, List.getElem?_cons_succ] at hx
   exact hx
  ·cases j with
   | zero =>
    simp only [List.map_cons, List.getElem?_cons_zero, Option.some.injEq] at hx
    subst hx
    simp only [toZ]
    omega
   | succ j =>
    rw [List.map_cons, List.getElem?_cons_succ] at hx
    exact g.tok j x hx (by simp at hj ⊢; omega)
  ·cases j with
   | zero =>
    simp only [List.map_cons, List.getElem?_cons_zero, Option.some.injEq] at hx
    subst hx
    rw [List.map_cons, List.getElem?_cons_succ] at hy
    exact g0 y hy
   | succ j =>
    rw [List.map_cons, List.getElem?_cons_succ] at hx hy
    exact g.next j x y hx hy
  ·simp only [List.map_cons, List.getElem?_cons_zero, Option.some.injEq] at hx
   subst hx
   simp only [toZ]
   omega
theorem lexR_good {s : List Nat} {T : List Tk} {x : Nat} (h : lexR s = (T, x, 0)) : GoodT s.length (T.map toZ) := (lexR_tl h).good.1
end Go.VM
end
section
/- Expressions of a text: parts lie within, one behind the other. -/
set_option maxRecDepth 100000
set_option linter.unusedVariables false
set_option linter.unusedSimpArgs false
namespace Go.VM
open Go.RowKit
theorem now_of {l : List Tz} {i : Nat} (h : i < l.length) : l[i]? = some (nowF l i) := by
 rw [nowF, List.getElem?_eq_getElem h]
section
variable {N : Nat} {l : List Tz}
theorem GoodT.kind (g : GoodT N l) {i : Nat} (h : (nowF l i).k ≠ 0) : i + 1 < l.length := by
 have h1 := now_lt h
 rcases Nat.lt_or_ge (i + 1) l.length with q | q
 ·exact q
 ·have := g.last (nowF l i) (by rw [show l.length - 1 = i by omega]; exact now_of h1)
  rw [this] at h; exact absurd rfl h
theorem GoodT.lt (g : GoodT N l) {i : Nat} (h : i + 1 < l.length) : (nowF l i).a < (nowF l i).e := (g.tok i _ (now_of (by omega)) h).2.1
theorem GoodT.step (g : GoodT N l) {i : Nat} (h : i + 1 < l.length) : (nowF l i).e ≤ (nowF l (i + 1)).a := g.next i _ _ (now_of (by omega)) (now_of h)
theorem GoodT.sorted (g : GoodT N l) : ∀ {i j : Nat}, i < j → j < l.length → (nowF l i).e ≤ (nowF l j).a := by
 intro i j
 induction j with
 | zero => intro h; omega
 | succ j ih =>
  intro h1 h2
  have h3 := g.step (i := j) h2
  rcases Nat.lt_or_ge i j with q | q
  ·have := ih q (by omega)
   have := g.lt (i := j) h2
   omega
  ·have : i = j := by omega
   subst this; exact h3
theorem GoodT.mono (g : GoodT N l) {i j : Nat} (h : i ≤ j) (hj : j < l.length) : (nowF l i).a ≤ (nowF l j).a := by
 rcases Nat.eq_or_lt_of_le h with e | e
 ·rw [e]; omega
 ·have := g.sorted e hj
  have := g.lt (i := i) (by omega)
  omega
theorem GoodT.range (g : GoodT N l) (i : Nat) : 0 ≤ (nowF l i).a ∧ (nowF l i).a ≤ (N : Int) := by
 have hp := g.pos
 have hl := g.last _ (now_of (i := l.length - 1) (by omega))
 rcases Nat.lt_or_ge i l.length with h | h
 ·rcases Nat.lt_or_ge (i + 1) l.length with q | q
  ·have := g.tok i _ (now_of h) q; omega
  ·rw [show i = l.length - 1 by omega, hl]; simp
 ·rw [nowF_none h]
  have : lastE l = (N : Int) := by rw [lastE_at (now_of (i := l.length - 1) (by omega)), hl]
  rw [this]; simp
end
mutual
def lies : Ex → Prop
 | .mk _ a e _ _ _ args => chain a args e
def chain : Int → List Ex → Int → Prop
 | lo, [], hi => lo ≤ hi
 | lo, x :: r, hi => lo ≤ x.at' ∧ x.at' < x.en ∧ lies x ∧ chain x.en r hi
end
theorem chain.up : ∀ {r : List Ex} {lo hi hi' : Int}, chain lo r hi → hi ≤ hi' → chain lo r hi'
 | [], lo, hi, hi', h, k => by
  have h : lo ≤ hi := h
  show lo ≤ hi'; omega
 | x :: r, lo, hi, hi', h, k => ⟨h.1, h.2.1, h.2.2.1, chain.up h.2.2.2 k⟩
theorem chain.down {r : List Ex} {lo lo' hi : Int} (h : chain lo r hi) (k : lo' ≤ lo) : chain lo' r hi := by
 cases r with
 | nil =>
  have h : lo ≤ hi := h
  show lo' ≤ hi; omega
 | cons x r => exact ⟨by have := h.1; omega, h.2⟩
theorem chain.app : ∀ {r : List Ex} {lo hi hi' : Int} {x : Ex}, chain lo r hi → hi ≤ x.at' → x.at' < x.en → lies x → x.en ≤ hi' → chain lo (r ++ [x]) hi'
 | [], lo, hi, hi', x, h, h1, h2, h3, h4 => by
  have h : lo ≤ hi := h
  exact ⟨by omega, h2, h3, h4⟩
 | y :: r, lo, hi, hi', x, h, h1, h2, h3, h4 => ⟨h.1, h.2.1, h.2.2.1, chain.app h.2.2.2 h1 h2 h3 h4⟩
structure Span (l : List Tz) (a a' : Nat) (x : Ex) : Prop where
 lt : a < a'
 len : a' < l.length
 lo : (nowF l a).a ≤ x.at'
 mid : x.at' < x.en
 hi : x.en ≤ (nowF l (a' - 1)).e
 lies : lies x
structure SpanL (l : List Tz) (a a2 : Nat) (r : List Ex × Int) : Prop where
 lt : a + 1 < a2
 len : a2 < l.length
 chain : chain (nowF l a).e r.1 (nowF l (a2 - 1)).a
 en : r.2 = (nowF l (a2 - 1)).e
structure LieF (l : List Tz) (f : Fns) : Prop where
 expr : ∀ lv a d x a', f.expr lv a d = .ok x a' → Span l a a' x
 oper : ∀ a d x a', f.oper a d = .ok x a' → Span l a a' x
 prim : ∀ a d x a', f.prim a d = .ok x a' → Span l a a' x
 list : ∀ to a d r a2, a + 1 < l.length → f.list to a d = .ok r a2 → SpanL l a a2 r
 bin : ∀ b lv x a d y a', Span l b a x → f.bin lv x a d = .ok y a' → Span l b a' y
 post : ∀ b x a d y a', Span l b a x → f.post x a d = .ok y a' → Span l b a' y
 elts : ∀ lo acc a d es a', chain lo acc (nowF l a).a → f.elts acc a d = .ok es a' → chain lo es (nowF l a').a ∧ a < a' ∧ a' < l.length
theorem bind_ok {α β : Type} {r : R α} {f : α → Nat → R β} {v : β} {a : Nat} (h : r.bind f = .ok v a) : ∃ x a1, r = .ok x a1 ∧ f x a1 = .ok v a := by
 cases r with
 | ok x a1 => exact ⟨x, a1, rfl, h⟩
 | er _ _ _ _ => cases h
 | out => cases h
theorem within_okD {α : Type} {l : List Tz} {a d : Nat} {f : Nat → Nat → R α} {v : α} {a' : Nat} (h : withinF l a d f = .ok v a') : f (a + 1) (d + 1) = .ok v a' := by
 unfold withinF at h
 split at h
 ·cases h
 ·exact h
theorem must_okD {l : List Tz} {a d : Nat} {s : List Nat} {e : Int} {a1 : Nat} (h : mustF l a d s = .ok e a1) : e = (nowF l a).e ∧ a1 = a + 1 ∧ (nowF l a).k = 4 := by
 unfold mustF at h
 split at h
 ·rename_i hi
  cases h
  unfold isF at hi
  simp only [Bool.and_eq_true, decide_eq_true_eq] at hi
  exact ⟨rfl, rfl, hi.1⟩
 ·cases h
theorem isF_k {l : List Tz} {a : Nat} {k : Int} {s : List Nat} (h : isF l a k s = true) : (nowF l a).k = k := by
 unfold isF at h
 simp only [Bool.and_eq_true, decide_eq_true_eq] at h
 exact h.1
section
variable {N : Nat} {l : List Tz}
theorem Span.end' (g : GoodT N l) {a a' : Nat} {x : Ex} (s : Span l a a' x) : x.en ≤ (nowF l a').a := by
 have := g.sorted (i := a' - 1) (j := a') (by have := s.lt; omega) s.len
 have := s.hi
 omega
theorem one_token (g : GoodT N l) {a : Nat} (hk : (nowF l a).k ≠ 0) (k : Nat) (nm : List Nat) (n : Int) (t : Tx) : Span l a (a + 1) (.mk k (nowF l a).a (nowF l a).e nm n t []) := by
 have h := g.kind hk
 have := g.lt h
 exact ⟨Nat.lt_succ_self _, h, Int.le_refl _, this, Int.le_refl _, Int.le_of_lt this⟩
theorem lie_next (g : GoodT N l) {f : Fns} (h : LieF l f) : LieF l ⟨nExpr f, nOper l f, nPrim l f, nList l f, nBin l f, nPost l f, nElts l f⟩ := by
 refine ⟨fun lv a d x a' e => ?_, fun a d x a' e => ?_, fun a d x a' e => ?_, fun to a d r a2 ha e => ?_, fun b lv x a d y a' s e => ?_, fun b x a d y a' s e => ?_, fun lo acc a d es a' hc e => ?_⟩
 ·have e : nExpr f lv a d = .ok x a' := e
  unfold nExpr at e
  split at e
  ·exact h.oper _ _ _ _ e
  ·obtain ⟨y, a1, e1, e2⟩ := bind_ok e
   exact h.bin _ _ _ _ _ _ _ (h.expr _ _ _ _ _ e1) e2
 ·have e : nOper l f a d = .ok x a' := e
  unfold nOper at e
  split at e
  ·rename_i hi
   obtain ⟨y, a1, e1, e2⟩ := bind_ok e
   have s := h.oper _ _ _ _ (within_okD e1)
   cases e2
   have hk := g.kind (i := a) (by rw [isF_k hi]; decide)
   have h1 := g.lt hk
   have h2 := g.step hk
   have := s.lo; have := s.mid; have := s.lt
   exact ⟨by omega, s.len, Int.le_refl _, by show (nowF l a).a < y.en; omega, s.hi, ⟨by show (nowF l a).a ≤ y.at'; omega, s.mid, s.lies, Int.le_refl _⟩⟩
  ·obtain ⟨y, a1, e1, e2⟩ := bind_ok e
   exact h.post _ _ _ _ _ _ (h.prim _ _ _ _ e1) e2
 ·have e : nPrim l f a d = .ok x a' := e
  unfold nPrim at e
  split at e
  ·rename_i hk
   obtain ⟨n, a1, e1, e2⟩ := bind_ok e
   cases e2
   exact one_token g (by rw [of_decide_eq_true hk]; decide) _ _ _ _
  ·split at e
   ·rename_i hk
    split at e
    ·cases e
     exact one_token g (by rw [of_decide_eq_true hk]; decide) _ _ _ _
    ·cases e
   ·split at e
    ·rename_i hi
     cases e
     exact one_token g (by rw [isF_k hi]; decide) _ _ _ _
    ·split at e
     ·rename_i hi
      cases e
      exact one_token g (by rw [isF_k hi]; decide) _ _ _ _
     ·split at e
      ·rename_i hk
       cases e
       exact one_token g (by rw [of_decide_eq_true hk]; decide) _ _ _ _
      ·split at e
       ·rename_i hi
        obtain ⟨y, a1, e1, e2⟩ := bind_ok e
        obtain ⟨z, a2, e3, e4⟩ := bind_ok e2
        cases e4
        have s := h.expr _ _ _ _ _ (within_okD e1)
        obtain ⟨_, q2, q3⟩ := must_okD e3
        have hk2 := g.kind (i := a1) (by rw [q3]; decide)
        have := g.mono (i := a) (j := a + 1) (by omega) (by have := s.lt; have := s.len; omega)
        have := s.lo; have := s.end' g; have := g.lt hk2; have := s.lt
        subst q2
        exact ⟨by omega, hk2, by omega, s.mid, by show _ ≤ (nowF l (a1 + 1 - 1)).e; rw [Nat.add_sub_cancel]; omega, s.lies⟩
       ·split at e
        ·rename_i hi
         unfold madeF at e
         split at e
         ·rename_i ty a1 ht
          have q := tyF_fwd ht
          split at e
          ·rename_i hi2
           have hk2 := g.kind (i := a1) (by rw [isF_k hi2]; decide)
           obtain ⟨r, a2, e1, e2⟩ := bind_ok e
           cases e2
           have s := h.list _ _ _ _ _ hk2 e1
           have h1 := g.mono (i := a) (j := a1) (by omega) (by omega)
           have h2 := g.lt hk2
           have h3 := g.sorted (i := a1) (j := a' - 1) (by have := s.lt; omega) (by have := s.len; omega)
           have h4 := g.lt (i := a' - 1) (by have := s.len; have := s.lt; omega)
           have h5 := s.en
           have := s.lt
           exact ⟨by omega, s.len, Int.le_refl _, by show (nowF l a).a < r.2; omega, by show r.2 ≤ _; omega, (s.chain.down (by omega)).up (by omega)⟩
          ·cases e
         ·cases e
         ·cases e
        ·cases e
 ·have e : nList l f to a d = .ok r a2 := e
  unfold nList at e
  obtain ⟨es, a1, e1, e2⟩ := bind_ok e
  obtain ⟨z, a3, e3, e4⟩ := bind_ok e2
  cases e4
  have e1 := within_okD e1
  obtain ⟨q1, q2, q3⟩ := must_okD e3
  have hk2 := g.kind (i := a1) (by rw [q3]; decide)
  subst q2
  have hc : chain (nowF l a).e es (nowF l a1).a ∧ a < a1 := by
   unfold nElt0 at e1
   split at e1
   ·cases e1
    exact ⟨g.step ha, Nat.lt_succ_self _⟩
   ·have := h.elts (nowF l a).e [] (a + 1) (d + 1) es a1 (g.step ha) e1
    exact ⟨this.1, by omega⟩
  exact ⟨by omega, hk2, by show chain _ es (nowF l (a1 + 1 - 1)).a; rw [Nat.add_sub_cancel]; exact hc.1, by show z = _; rw [Nat.add_sub_cancel]; exact q1⟩
 ·have e : nBin l f lv x a d = .ok y a' := e
  unfold nBin at e
  split at e
  ·rename_i hb
   obtain ⟨z, a2, e1, e2⟩ := bind_ok e
   have s2 := h.expr _ _ _ _ _ e1
   unfold binB at hb
   simp only [Bool.and_eq_true, decide_eq_true_eq] at hb
   have hk := g.kind (i := a) (by rw [hb.1]; decide)
   have h1 := s.end' g
   have h2 := g.lt hk
   have h3 := g.step hk
   have := s.lt; have := s2.lt; have := s2.lo; have := s2.mid; have := s.mid
   refine h.bin b lv (binX (nowF l a) x z) a2 d y a' ⟨by omega, s2.len, s.lo, by show x.at' < z.en; omega, s2.hi, ?_⟩ e2
   exact ⟨Int.le_refl _, s.mid, s.lies, by omega, s2.mid, s2.lies, Int.le_refl _⟩
  ·cases e; exact s
 ·have e : nPost l f x a d = .ok y a' := e
  have h1 := s.end' g
  have hlt := s.lt
  have hmid := s.mid
  unfold nPost at e
  split at e
  ·rename_i hi
   split at e
   ·rename_i hk
    have k1 := g.kind (i := a) (by rw [isF_k hi]; decide)
    have k2 := g.kind (i := a + 1) (by rw [of_decide_eq_true hk]; decide)
    have := g.lt k1; have := g.step k1; have := g.lt k2
    refine h.post b (.mk 5 x.at' (nowF l (a + 1)).e (nowF l (a + 1)).t 0 zT [x]) _ d y a' ⟨by omega, k2, s.lo, by show x.at' < (nowF l (a + 1)).e; omega, by show (nowF l (a + 1)).e ≤ (nowF l (a + 1 + 1 - 1)).e; rw [Nat.add_sub_cancel]; exact Int.le_refl _, ⟨Int.le_refl _, s.mid, s.lies, by show x.en ≤ (nowF l (a + 1)).e; omega⟩⟩ e
   ·cases e
  ·split at e
   ·rename_i hi
    have k1 := g.kind (i := a) (by rw [isF_k hi]; decide)
    obtain ⟨r, a1, e1, e2⟩ := bind_ok e
    have s2 := h.list _ _ _ _ _ k1 e1
    have q1 := g.lt k1
    have q2 := g.sorted (i := a) (j := a1 - 1) (by have := s2.lt; omega) (by have := s2.len; omega)
    have q3 := g.lt (i := a1 - 1) (by have := s2.len; have := s2.lt; omega)
    have q4 := s2.en
    have := s2.lt
    refine h.post b (.mk 6 x.at' r.2 [] 0 zT (x :: r.1)) _ d y a' ⟨by omega, s2.len, s.lo, by show x.at' < r.2; omega, by show r.2 ≤ _; omega, ⟨Int.le_refl _, s.mid, s.lies, (s2.chain.down (by omega)).up (by omega)⟩⟩ e2
   ·split at e
    ·rename_i hi
     have k1 := g.kind (i := a) (by rw [isF_k hi]; decide)
     obtain ⟨z, a1, e1, e2⟩ := bind_ok e
     obtain ⟨w, a2, e3, e4⟩ := bind_ok e2
     have s2 := h.expr _ _ _ _ _ (within_okD e1)
     obtain ⟨p1, p2, p3⟩ := must_okD e3
     have k2 := g.kind (i := a1) (by rw [p3]; decide)
     have q1 := g.lt k1; have q2 := g.step k1; have q3 := g.lt k2
     have q4 := s2.end' g
     have := s2.lt; have := s2.lo; have := s2.mid
     subst p2
     refine h.post b (.mk 7 x.at' w [] 0 zT [x, z]) _ d y a' ⟨by omega, k2, s.lo, by show x.at' < w; omega, by show w ≤ (nowF l (a1 + 1 - 1)).e; rw [Nat.add_sub_cancel]; omega, ⟨Int.le_refl _, s.mid, s.lies, by omega, s2.mid, s2.lies, by show z.en ≤ w; omega⟩⟩ e4
    ·cases e; exact s
 ·have e : nElts l f acc a d = .ok es a' := e
  unfold nElts at e
  obtain ⟨x, a1, e1, e2⟩ := bind_ok e
  have s := h.expr _ _ _ _ _ e1
  have q := s.end' g
  have := s.lo; have := s.lt
  split at e2
  ·rename_i hi
   have k1 := g.kind (i := a1) (by rw [isF_k hi]; decide)
   have := g.lt k1; have := g.step k1
   have r := h.elts lo (acc ++ [x]) (a1 + 1) d es a' (hc.app (by omega) s.mid s.lies (by omega)) e2
   exact ⟨r.1, by omega, r.2.2⟩
  ·cases e2
   exact ⟨hc.app (by omega) s.mid s.lies q, s.lt, s.len⟩
theorem fns_lie (g : GoodT N l) : ∀ n, LieF l (fns l n)
 | 0 => ⟨fun _ _ _ _ _ e => (by cases e), fun _ _ _ _ e => (by cases e), fun _ _ _ _ e => (by cases e), fun _ _ _ _ _ _ e => (by cases e), fun _ _ _ _ _ _ _ _ e => (by cases e), fun _ _ _ _ _ _ _ e => (by cases e), fun _ _ _ _ _ _ _ e => (by cases e)⟩
 | n + 1 => lie_next g (fns_lie g n)
end
end Go.VM
end
section
/- Expressions of a text: where it is wrong. -/
set_option maxRecDepth 100000
set_option linter.unusedVariables false
set_option linter.unusedSimpArgs false
namespace Go.VM
open Go.RowKit
def ErrP {α : Type} (N : Nat) (r : R α) : Prop := ∀ a d p c, r = .er a d p c → 0 ≤ p ∧ p ≤ (N : Int) ∧ c ≠ 0
theorem ErrP.ok {α : Type} {N : Nat} {v : α} {a : Nat} : ErrP N (R.ok v a) := fun _ _ _ _ e => by cases e
theorem ErrP.out {α : Type} {N : Nat} : ErrP N (R.out (α := α)) := fun _ _ _ _ e => by cases e
theorem ErrP.bind {α β : Type} {N : Nat} {r : R α} {f : α → Nat → R β} (h : ErrP N r) (k : ∀ v a1, ErrP N (f v a1)) : ErrP N (r.bind f) := by
 intro a d p c e
 cases r with
 | ok v a1 => exact k v a1 a d p c e
 | er a1 d1 p1 c1 => cases e; exact h _ _ _ _ rfl
 | out => cases e
section
variable {N : Nat} {l : List Tz}
theorem ErrP.fail {α : Type} (g : GoodT N l) {a d : Nat} {c : Int} (hc : c ≠ 0) : ErrP N (failF (α := α) l a d c) := by
 intro a' d' p c' e
 cases e
 exact ⟨(g.range a).1, (g.range a).2, hc⟩
theorem ErrP.within {α : Type} (g : GoodT N l) {a d : Nat} {f : Nat → Nat → R α} (h : ErrP N (f (a + 1) (d + 1))) : ErrP N (withinF l a d f) := by
 unfold withinF
 split
 ·exact .fail g (by decide)
 ·exact h
theorem ErrP.must (g : GoodT N l) {a d : Nat} {s : List Nat} : ErrP N (mustF l a d s) := by
 unfold mustF
 split
 ·exact .ok
 ·exact .fail g (by decide)
theorem tyOpen_at : ∀ (m a : Nat) (ls : List Int) (p c : Int), tyOpen l m a ls = .er p c → ∃ i, p = (nowF l i).a
 | 0, a, ls, p, c, h => by
  simp only [tyOpen] at h
  split at h
  ·cases h
  ·cases h; exact ⟨_, rfl⟩
 | m + 1, a, ls, p, c, h => by
  simp only [tyOpen] at h
  split at h
  ·cases h
  ·split at h
   ·cases h; exact ⟨_, rfl⟩
   ·exact tyOpen_at m (a + 2) _ p c h
theorem tyBase_at {a a' d' : Nat} {p c : Int} (h : tyBase l a = .er a' d' p c) : ∃ i, p = (nowF l i).a := by
 unfold tyBase at h
 split at h
 ·cases h
 ·split at h
  ·split at h
   ·split at h
    ·cases h
    ·cases h; exact ⟨_, rfl⟩
   ·cases h
  ·cases h; exact ⟨_, rfl⟩
theorem tyF_at {a a' d' : Nat} {p c : Int} (h : tyF l a = .er a' d' p c) : ∃ i, p = (nowF l i).a := by
 unfold tyF at h
 split at h
 ·rename_i p' c' ho; cases h; exact tyOpen_at 30 a [] p c ho
 ·split at h
  ·cases h
  ·rename_i hb; cases h; exact tyBase_at hb
  ·cases h
structure ErrF (N : Nat) (f : Fns) : Prop where
 expr : ∀ lv a d, ErrP N (f.expr lv a d)
 oper : ∀ a d, ErrP N (f.oper a d)
 prim : ∀ a d, ErrP N (f.prim a d)
 list : ∀ to a d, ErrP N (f.list to a d)
 bin : ∀ lv x a d, ErrP N (f.bin lv x a d)
 post : ∀ x a d, ErrP N (f.post x a d)
 elts : ∀ acc a d, ErrP N (f.elts acc a d)
theorem err_next (g : GoodT N l) {f : Fns} (h : ErrF N f) : ErrF N ⟨nExpr f, nOper l f, nPrim l f, nList l f, nBin l f, nPost l f, nElts l f⟩ := by
 refine ⟨fun lv a d => ?_, fun a d => ?_, fun a d => ?_, fun to a d => ?_, fun lv x a d => ?_, fun x a d => ?_, fun acc a d => ?_⟩
 ·show ErrP N (nExpr f lv a d)
  unfold nExpr
  split
  ·exact h.oper _ _
  ·exact (h.expr _ _ _).bind fun _ _ => h.bin _ _ _ _
 ·show ErrP N (nOper l f a d)
  unfold nOper
  split
  ·exact (ErrP.within g (h.oper _ _)).bind fun _ _ => .ok
  ·exact (h.prim _ _).bind fun _ _ => h.post _ _ _
 ·show ErrP N (nPrim l f a d)
  unfold nPrim
  split
  ·refine ErrP.bind ?_ fun _ _ => .ok
   unfold numberF
   split
   ·exact .ok
   ·exact .fail g (by decide)
  ·split
   ·split
    ·exact .ok
    ·exact .fail g (by decide)
   ·split
    ·exact .ok
    ·split
     ·exact .ok
     ·split
      ·exact .ok
      ·split
       ·exact (ErrP.within g (h.expr _ _ _)).bind fun _ _ => (ErrP.must g).bind fun _ _ => .ok
       ·split
        ·unfold madeF
         split
         ·split
          ·exact (h.list _ _ _).bind fun _ _ => .ok
          ·exact .fail g (by decide)
         ·rename_i ht
          intro a' d' p c e
          cases e
          obtain ⟨i, hi⟩ := tyF_at ht
          subst hi
          exact ⟨(g.range i).1, (g.range i).2, (tyF_er ht).1⟩
         ·exact .out
        ·exact .fail g (by decide)
 ·show ErrP N (nList l f to a d)
  unfold nList
  refine (ErrP.within g ?_).bind fun _ _ => (ErrP.must g).bind fun _ _ => .ok
  unfold nElt0
  split
  ·exact .ok
  ·exact h.elts _ _ _
 ·show ErrP N (nBin l f lv x a d)
  unfold nBin
  split
  ·exact (h.expr _ _ _).bind fun _ _ => h.bin _ _ _ _
  ·exact .ok
 ·show ErrP N (nPost l f x a d)
  unfold nPost
  split
  ·split
   ·exact h.post _ _ _
   ·exact .fail g (by decide)
  ·split
   ·exact (h.list _ _ _).bind fun _ _ => h.post _ _ _
   ·split
    ·exact (ErrP.within g (h.expr _ _ _)).bind fun _ _ => (ErrP.must g).bind fun _ _ => h.post _ _ _
    ·exact .ok
 ·show ErrP N (nElts l f acc a d)
  unfold nElts
  refine (h.expr _ _ _).bind fun _ _ => ?_
  split
  ·exact h.elts _ _ _
  ·exact .ok
theorem fns_err (g : GoodT N l) : ∀ n, ErrF N (fns l n)
 | 0 => ⟨fun _ _ _ => .out, fun _ _ => .out, fun _ _ => .out, fun _ _ _ => .out, fun _ _ _ _ => .out, fun _ _ _ => .out, fun _ _ _ => .out⟩
 | n + 1 => err_next g (fns_err g n)
end
end Go.VM
end
section
/- Expressions of a text: the law's own search. -/
set_option maxRecDepth 100000
set_option linter.unusedVariables false
set_option linter.unusedSimpArgs false
namespace Go.VM
open Go.RowKit
theorem chain_len : ∀ {r : List Ex} {lo hi : Int}, chain lo r hi → (r.length : Int) ≤ hi - lo
 | [], lo, hi, h => by
  have h : lo ≤ hi := h
  simp; omega
 | x :: r, lo, hi, h => by
  have h1 := h.1; have h2 := h.2.1; have := chain_len h.2.2.2
  simp only [List.length_cons]; omega
theorem chain_ge : ∀ {r : List Ex} {lo hi : Int}, chain lo r hi → lo ≤ hi
 | [], lo, hi, h => h
 | x :: r, lo, hi, h => by have h1 := h.1; have h2 := h.2.1; have := chain_ge h.2.2.2; omega
def wiTm (at' : Int) (i : Nat) : TM := [(1, .l 1 0), (2, .v (.bool false)), (3, .v (.int .i64 at')), (4, .v (.int .i64 i))]
theorem wi_loop {QN : S → Prop} {QX : X → S → Prop} (k : Nat) (a e : Int) (nm : List Nat) (nn : Int) (tk : Nat) (ta : Int) (tp tn : List Nat) (tl : List Tx) (args : List Ex) (hb : args.length < 1000000000000000)
  (ih : ∀ y ∈ args, 0 ≤ y.at' → SCall Go.Proofs.Tryd.prog [] 14 [.agg (encEx y)] none ⟨1000, og [], []⟩ (.ret (.bool true)) none ⟨1000, og [], []⟩)
  (h0 : ∀ tm, QX (.exit 0) (SL.toS ⟨tm, [], none, 1000, [], [(1, encEx (.mk k a e nm nn (.mk tk ta tp tn tl) args))]⟩)) : ∀ (m i : Nat) (lo : Int), i + m = args.length → 0 ≤ lo → chain lo (args.drop i) e → ∀ lc, TellL lc [(1, encEx (.mk k a e nm nn (.mk tk ta tp tn tl) args))] → ∀ tm, TellT tm [(1, encEx (.mk k a e nm nn (.mk tk ta tp tn tl) args))] (wiTm lo i) →
  WLr Go.Proofs.Tryd.prog [] ⟨Go.Proofs.Tryd.f14.ntmps, none, 14⟩ rc14_L1 (SL.toS ⟨tm, [], none, 1000, [], lc⟩) QN QX := by
 intro m
 induction m with
 | zero =>
  intro i lo hi _ _ lc hlc tm htm
  refine WLr.weak (SW.tellR htm hlc) ?_
  unfold rc14_L1
  refine WLr.of ?_
  repeat (refine WR.seq ?_)
  refine WR.reg (WQ.runS [] 5 _ _ _ _ rfl ?_)
  rw [encExs_map, List.length_map, show decide ((i : Int) < (args.length : Int)) = false from decide_eq_false (by omega)]
  refine WQ.runS [] 1000 _ _ _ _ rfl (WQ.nilS ?_)
  repeat (refine WR.seq ?_)
  rw [← encExs_map]
  exact WR.condF rfl (WR.exit (h0 _))
 | succ m ihm =>
  intro i lo hi hlo hc lc hlc tm htm
  obtain ⟨y, hy, hdr⟩ : ∃ y, args[i]? = some y ∧ args.drop i = y :: args.drop (i + 1) := ⟨args[i], List.getElem?_eq_getElem (by omega), List.drop_eq_getElem_cons (by omega)⟩
  rw [hdr] at hc
  obtain ⟨c1, c2, c3, c4⟩ := hc
  have sc := ih y (List.mem_of_getElem? hy) (by omega)
  have hge := chain_ge c4
  obtain ⟨yk, ya, ye, yn, yv, ⟨ytk, yta, ytp, ytn, ytl⟩, ys⟩ := y
  have c1 : lo ≤ ya := c1
  have c2 : ya < ye := c2
  have hge : ye ≤ e := hge
  refine WLr.weak (SW.tellR htm hlc) ?_
  unfold rc14_L1
  refine WLr.of ?_
  repeat (refine WR.seq ?_)
  refine WR.reg (WQ.runS [] 5 _ _ _ _ rfl ?_)
  rw [encExs_map, List.length_map, show decide ((i : Int) < (args.length : Int)) = true from decide_eq_true (by omega)]
  refine WQ.runS [] 1000 _ _ _ _ rfl (WQ.nilS ?_)
  rw [← encExs_map]
  repeat (refine WR.seq ?_)
  refine WR.condT rfl (WR.skip ?_)
  repeat (refine WR.seq ?_)
  refine WR.block ?_
  repeat (refine WR.seq ?_)
  refine WR.reg (WQ.runS [] 3 _ _ _ _ rfl ?_)
  refine WQ.lightS rfl rfl rfl (ia_at (cs := encEx (.mk yk ya ye yn yv (.mk ytk yta ytp ytn ytl) ys)) rfl rfl (by rw [encExs_map, List.getElem?_map, hy]; rfl) rfl) rfl ?_
  refine WQ.runS [] 1000 _ _ _ _ rfl (WQ.nilS ?_)
  repeat (refine WR.seq ?_)
  refine WR.reg (WQ.runS [] 1 _ _ _ _ rfl ?_)
  refine WQ.callH rfl rfl rfl rfl rfl (SCall.relc sc _) .base rfl ?_
  refine WQ.runS [] 1000 _ _ _ _ rfl (WQ.nilS ?_)
  repeat (refine WR.seq ?_)
  refine WR.reg (WQ.runS [] 7 _ _ _ _ rfl ?_)
  rw [show decide (ya < lo) = false from decide_eq_false (by omega)]
  refine WQ.runS [] 7 _ _ _ _ rfl ?_
  rw [show decide (ye > e) = false from decide_eq_false (by omega)]
  refine WQ.runS [] 7 _ _ _ _ rfl ?_
  rw [show decide (ye ≤ ya) = false from decide_eq_false (by omega)]
  refine WQ.runS [] 1000 _ _ _ _ rfl (WQ.nilS ?_)
  repeat (refine WR.seq ?_)
  refine WR.condF rfl (WR.skip ?_)
  repeat (refine WR.seq ?_)
  refine WR.reg (WQ.runS [] 1000 _ _ _ _ rfl (WQ.nilS ?_))
  unfold rc14_J1
  repeat (refine WR.seq ?_)
  refine WR.reg (WQ.runS [] 2 _ _ _ _ rfl ?_)
  rw [nextB (by unfold big; omega)]
  refine WQ.runS [] 1000 _ _ _ _ rfl (WQ.nilS ?_)
  refine WIr.again (ihm (i + 1) ye (by omega) (by omega) c4 _ ?_ _ ?_)
  ·repeat (first | exact .nil | refine .cons rfl (.inl rfl) ?_)
  ·repeat (first | exact .nil | refine .cons rfl (.v (VLe.refl _)) ?_ | refine .cons rfl (.l _ _ rfl) ?_)
end Go.VM
end
section
/- Expressions of a text: the law ExprxLies. -/
set_option maxRecDepth 100000
set_option linter.unusedVariables false
set_option linter.unusedSimpArgs false
namespace Go.VM
open Go.RowKit
theorem chain_mem : ∀ {r : List Ex} {lo hi : Int} {y : Ex}, chain lo r hi → y ∈ r → lies y ∧ lo ≤ y.at' ∧ y.en ≤ hi
 | [], lo, hi, y, _, hm => by cases hm
 | x :: r, lo, hi, y, h, hm => by
  obtain ⟨h1, h2, h3, h4⟩ := h
  cases hm with
  | head => exact ⟨h3, h1, chain_ge h4⟩
  | tail _ hm =>
   have := chain_mem h4 hm
   exact ⟨this.1, by omega, this.2.2⟩
theorem wi_sp : ∀ (n : Nat) (x : Ex), SizeOf.sizeOf x < n → lies x → 0 ≤ x.at' → x.en ≤ 200000000000000 → SCall Go.Proofs.Tryd.prog [] 14 [.agg (encEx x)] none ⟨1000, og [], []⟩ (.ret (.bool true)) none ⟨1000, og [], []⟩
 | 0, x, h, _, _, _ => by omega
 | n + 1, .mk k a e nm nn (.mk tk ta tp tn tl) args, h, hl, h0, hN => by
  have hl : chain a args e := hl
  have h0 : 0 ≤ a := h0
  have hN : e ≤ 200000000000000 := hN
  have hlen := chain_len hl
  have ih : ∀ y ∈ args, 0 ≤ y.at' → SCall Go.Proofs.Tryd.prog [] 14 [.agg (encEx y)] none ⟨1000, og [], []⟩ (.ret (.bool true)) none ⟨1000, og [], []⟩ := by
   intro y hy hy0
   have hm := chain_mem hl hy
   refine wi_sp n y ?_ hm.1 hy0 (by omega)
   have := List.sizeOf_lt_of_mem hy
   simp only [Ex.mk.sizeOf_spec] at h
   omega
  refine SCall.listed (fn := Go.Proofs.Tryd.f14) (by kernel_rfl) res14 (by kernel_rfl) (by kernel_rfl) (Nat.le_refl _) rfl (trivial) trivial ?_
  unfold rc14
  repeat (refine WR.seq ?_)
  refine WR.reg (WQ.runS [] 1000 _ _ _ _ rfl (WQ.nilS ?_))
  repeat (refine WR.seq ?_)
  refine WR.reg (WQ.runS [] 1000 _ _ _ _ rfl (WQ.nilS ?_))
  repeat (refine WR.seq ?_)
  refine WR.reg (WQ.runS [] 1000 _ _ _ _ rfl (WQ.nilS ?_))
  repeat (refine WR.seq ?_)
  refine WR.block (WR.loop (wi_loop k a e nm nn tk ta tp tn tl args (by omega) ih (fun tm => ?_) args.length 0 a (by omega) h0 hl _ ?_ _ ?_))
  ·unfold rc14_J2
   repeat (refine WR.seq ?_)
   refine WR.reg (WQ.runS [] 1000 _ _ _ _ rfl (WQ.nilS ?_))
   exact WR.ret ⟨rfl, rfl, ⟨_, rfl, VLe.refl _⟩, fun _ _ => rfl⟩
  ·repeat (first | exact .nil | refine .cons rfl (.inl rfl) ?_)
  ·repeat (first | exact .nil | refine .cons rfl (.v (VLe.refl _)) ?_ | refine .cons rfl (.l _ _ rfl) ?_)
theorem all_at (s : List Nat) (h8 : ∀ c ∈ s, c < 256) (hl : s.length < big) : SCall Go.Proofs.Tryd.prog [0] 12 [.str s] none ⟨1000, og tOl, []⟩ (.ret (allV s)) none ⟨1000, og tOl, []⟩ := by
 refine SCall.trim (all_core2 s h8 hl) rfl (Nat.le_refl _) (fun b hb => ?_) (fun b _ => rfl) (fun b _ => .inl rfl) ((allV_in (D := (· < 1000)) s).refLt)
 exact olB_none (N := 1000) rfl b hb
theorem parse_at (l : List Tz) (hl : l.length < 19999) (hT : ∀ t ∈ l, t.t.length < big) (a n : Nat) (ha : a ≤ l.length) (hn : ((fns l n).expr 1 a 0).isOut = false) (h : H) :
  SCall Go.Proofs.Tryd.prog [0] 13 [lsV l, .int .i64 a] none h (.ret (exV ((fns l n).expr 1 a 0))) none h :=
 SCall.more (SCall.pure0 rfl (parse_core l hl hT a n ha hn) (by exact ⟨lsV_in l, trivial, trivial⟩) (by exact exV_in _) h)
end Go.VM
end
section
/- Expressions of a text: the law ExprxLies, walked. -/
set_option maxRecDepth 100000
set_option linter.unusedVariables false
set_option linter.unusedSimpArgs false
namespace Go.VM
open Go.RowKit
theorem lexL_len (s : List Nat) : ∀ (m i : Nat) (l T : List Tk) (x : Nat), l.length ≤ 4000 → lexL s m i l = (T, x, 0) → T.length ≤ 4001 := by
 intro m
 induction m with
 | zero => intro i l T x hl h; simp only [lexL, Prod.mk.injEq] at h; rw [← h.1]; omega
 | succ m ih =>
  intro i l T x hl h
  simp only [lexL] at h
  split at h
  ·cases h; simp; omega
  ·simp only [tokW] at h
   split at h
   ·rename_i t ht
    rw [Prod.mk.injEq] at ht
    have h2 := ht.2
    split at h2
    ·cases h2
    ·exact ih _ _ _ _ (by simp; omega) h
   ·cases h
theorem toZ_text {N : Nat} {l : List Tz} (g : GoodT N l) (hN : N < big) : ∀ t ∈ l, t.t.length < big := by
 intro t ht
 obtain ⟨i, hi⟩ := List.mem_iff_getElem?.1 ht
 have hlt := (List.getElem?_eq_some_iff.1 hi).1
 rcases Nat.lt_or_ge (i + 1) l.length with h | h
 ·have := (g.tok i t hi h).2.2.2; omega
 ·have := g.last t (by rw [show l.length - 1 = i by omega]; exact hi)
  rw [this]; show 0 < big; decide
theorem lies_core (s : List Nat) (h8 : ∀ c ∈ s, c < 256) (hN : s.length ≤ 200000000000000) (aw : SCall Go.Proofs.Tryd.prog [0] 11 [] none ⟨1000, og tOl, []⟩ (.ret (.bool true)) none ⟨1000, og tOl, []⟩) :
  SCall Go.Proofs.Tryd.prog [0] 4 [.str s] none ⟨1000, og tOl, []⟩ (.ret (.bool true)) none ⟨1000, og tOl, []⟩ := by
 have hb : s.length < big := by unfold big; omega
 have al := all_at s h8 hb
 unfold allV at al
 have goodR : (lexR s).2.2 = 0 → GoodT s.length ((lexR s).1.map toZ) ∧ (lexR s).1.length ≤ 4001 := by
  intro h0
  have e : lexR s = ((lexR s).1, (lexR s).2.1, 0) := by rw [← h0]
  exact ⟨lexR_good e, lexL_len s _ _ [] _ _ (by simp) e⟩
 generalize (lexR s).1 = T at al goodR
 generalize (lexR s).2.1 = w1 at al
 generalize (lexR s).2.2 = w2 at al goodR
 refine SCall.listed (fn := Go.Proofs.Tryd.f4) (by kernel_rfl) res4 (by kernel_rfl) (by kernel_rfl) (Nat.le_refl _) rfl ((by exact ⟨tabS_in, trivial⟩)) trivial ?_
 unfold rc4
 repeat (refine WR.seq ?_)
 refine WR.reg (WQ.runS [] 1000 _ _ _ _ rfl (WQ.nilS ?_))
 repeat (refine WR.seq ?_)
 refine WR.reg (WQ.callH rfl rfl rfl rfl rfl aw .base rfl ?_)
 refine WQ.runS [] 1000 _ _ _ _ rfl (WQ.nilS ?_)
 repeat (refine WR.seq ?_)
 refine WR.reg (WQ.runS [] 1 _ _ _ _ rfl ?_)
 refine WQ.callH rfl rfl rfl rfl rfl (SCall.relc al _) .base rfl ?_
 cases w2 with
 | succ k =>
  refine WQ.runS [] 1000 _ _ _ _ rfl (WQ.nilS ?_)
  repeat (refine WR.seq ?_)
  refine WR.reg (WQ.runS [] 2 _ _ _ _ rfl ?_)
  refine WQ.runS [] 1 _ _ _ _ rfl ?_
  rw [show decide (((k + 1 : Nat) : Int) = 0) = false from decide_eq_false (by omega)]
  refine WQ.runS [] 1000 _ _ _ _ rfl (WQ.nilS ?_)
  repeat (refine WR.seq ?_)
  refine WR.condT rfl ?_
  repeat (refine WR.seq ?_)
  refine WR.reg (WQ.runS [] 1000 _ _ _ _ rfl (WQ.nilS ?_))
  exact WR.ret ⟨rfl, rfl, ⟨_, rfl, VLe.refl _⟩, fun _ _ => rfl⟩
 | zero =>
  obtain ⟨g, hlen⟩ := goodR rfl
  have e1 : (V.lst (List.map encTk T) .unk) = lsV (T.map toZ) := by unfold lsV; rw [encTks_Z]
  have hTl : (T.map toZ).length ≤ 4001 := by rw [List.length_map]; exact hlen
  generalize T.map toZ = Z at g e1 hTl
  rw [e1]
  refine WQ.runS [] 1000 _ _ _ _ rfl (WQ.nilS ?_)
  repeat (refine WR.seq ?_)
  refine WR.reg (WQ.runS [] 1000 _ _ _ _ rfl (WQ.nilS ?_))
  repeat (refine WR.seq ?_)
  refine WR.condF rfl (WR.skip ?_)
  obtain ⟨n, r, hr, hev⟩ := expr_ends Z 0 1 0 (Nat.zero_le _)
  have hev := hev n (Nat.le_refl _)
  have pa := parse_at Z (by omega) (toZ_text g hb) 0 n (Nat.zero_le _) (by rw [hev]; exact hr)
  have er := (fns_err g n).expr 1 0 0
  have li := (fns_lie g n).expr 1 0 0
  rw [hev] at pa er li
  repeat (refine WR.seq ?_)
  refine WR.reg (WQ.runS [] 1 _ _ _ _ rfl ?_)
  refine WQ.callH rfl rfl rfl rfl rfl (pa _) .base rfl ?_
  cases r with
  | out => cases hr
  | er a1 d1 p c =>
   obtain ⟨p0, p1, hc⟩ := er _ _ _ _ rfl
   refine WQ.runS [] 1000 _ _ _ _ rfl (WQ.nilS ?_)
   repeat (refine WR.seq ?_)
   refine WR.reg (WQ.runS [] 2 _ _ _ _ rfl ?_)
   refine WQ.runS [] 1 _ _ _ _ rfl ?_
   rw [show decide (c = 0) = false from decide_eq_false hc]
   refine WQ.runS [] 1000 _ _ _ _ rfl (WQ.nilS ?_)
   repeat (refine WR.seq ?_)
   refine WR.condT rfl ?_
   repeat (refine WR.seq ?_)
   refine WR.reg (WQ.runS [] 14 _ _ _ _ rfl ?_)
   rw [show decide (p ≥ 0) = true from decide_eq_true p0]
   refine WQ.runS [] 7 _ _ _ _ rfl ?_
   rw [show decide (p ≤ (s.length : Int)) = true from decide_eq_true p1]
   refine WQ.runS [] 1000 _ _ _ _ rfl (WQ.nilS ?_)
   exact WR.ret ⟨rfl, rfl, ⟨_, rfl, VLe.refl _⟩, fun _ _ => rfl⟩
  | ok x k =>
   have sp := li _ _ rfl
   have h1 := sp.lt; have h2 := sp.len; have h3 := sp.lo; have h4 := sp.mid; have h5 := sp.hi
   have r0 := g.range 0
   have t0 := now_of (l := Z) (i := 0) (by omega)
   have t1 := now_of (l := Z) (i := k - 1) (by omega)
   have rk := (g.tok (k - 1) _ t1 (by omega)).2.2.1
   have sw := wi_sp (SizeOf.sizeOf x + 1) x (Nat.lt_succ_self _) sp.lies (by omega) (by omega)
   generalize nowF Z 0 = u0 at h3 t0 r0
   generalize nowF Z (k - 1) = u1 at h5 t1 rk
   obtain ⟨xk, xa, xe, xn, xv, ⟨xtk, xta, xtp, xtn, xtl⟩, xs⟩ := x
   have h3 : u0.a ≤ xa := h3
   have h4 : xa < xe := h4
   have h5 : xe ≤ u1.e := h5
   refine WQ.runS [] 1000 _ _ _ _ rfl (WQ.nilS ?_)
   repeat (refine WR.seq ?_)
   refine WR.reg (WQ.runS [] 1000 _ _ _ _ rfl (WQ.nilS ?_))
   repeat (refine WR.seq ?_)
   refine WR.condF rfl (WR.skip ?_)
   repeat (refine WR.seq ?_)
   refine WR.dreg hmix (DW.runS [] 2 _ _ _ _ _ _ rfl ?_)
   rw [show decide ((k : Int) < 1) = false from decide_eq_false (by omega)]
   refine DW.runS [] 5 _ _ _ _ _ _ rfl ?_
   rw [List.length_map, show decide ((k : Int) ≥ (Z.length : Int)) = false from decide_eq_false (by omega)]
   refine DW.runS [] 5 _ _ _ _ _ _ rfl ?_
   refine DW.pureS rfl (fun h => ia_at (n := 0) (cs := encTz u0) rfl rfl (by rw [List.getElem?_map, t0]; rfl) rfl) rfl ?_
   refine DW.runS [] 3 _ _ _ _ _ _ rfl ?_
   rw [show decide (xa < u0.a) = false from decide_eq_false (by omega)]
   refine DW.runS [] 7 _ _ _ _ _ _ rfl ?_
   rw [subB1 (by omega) (by unfold big; omega)]
   refine DW.pureS rfl (fun h => ia_at (cs := encTz u1) rfl rfl (by rw [List.getElem?_map, t1]; rfl) rfl) rfl ?_
   refine DW.runS [] 3 _ _ _ _ _ _ rfl ?_
   rw [show decide (xe > u1.e) = false from decide_eq_false (by omega)]
   refine DW.runS [] 7 _ _ _ _ _ _ rfl ?_
   rw [show decide (xe ≤ xa) = false from decide_eq_false (by omega)]
   refine DW.runS [] 1000 _ _ _ _ _ _ rfl (DW.finS (by repeat (first | exact .nil | refine PendR.passM rfl ?_ | refine PendR.sameM rfl ?_ | refine PendR.lightM rfl ?_)) ?_)
   repeat (refine WR.seq ?_)
   refine WR.condF rfl (WR.skip ?_)
   repeat (refine WR.seq ?_)
   refine WR.reg (WQ.runS [] 1 _ _ _ _ rfl ?_)
   refine WQ.callH rfl rfl rfl rfl rfl (SCall.more (SCall.pure0 rfl sw (by exact ⟨encEx_in _, trivial⟩) trivial _)) .base rfl ?_
   refine WQ.runS [] 1000 _ _ _ _ rfl (WQ.nilS ?_)
   repeat (refine WR.seq ?_)
   refine WR.reg (WQ.runS [] 1000 _ _ _ _ rfl (WQ.nilS ?_))
   exact WR.ret ⟨rfl, rfl, ⟨_, rfl, VLe.refl _⟩, fun _ _ => rfl⟩
end Go.VM
end
section
/- Expressions of a text: the calls at the head of the laws. -/
set_option maxRecDepth 100000
set_option linter.unusedVariables false
set_option linter.unusedSimpArgs false
namespace Go.VM
open Go.RowKit
def s1 : List Nat := [97, 43, 98, 42, 99, 59]
def s2 : List Nat := [102, 40, 44, 41]
def Z1 : List Tz := [⟨1, 0, 1, [97]⟩, ⟨4, 1, 2, [43]⟩, ⟨1, 2, 3, [98]⟩, ⟨4, 3, 4, [42]⟩, ⟨1, 4, 5, [99]⟩, ⟨4, 5, 6, [59]⟩, ⟨0, 6, 6, []⟩]
def Z2 : List Tz := [⟨1, 0, 1, [102]⟩, ⟨4, 1, 2, [40]⟩, ⟨4, 2, 3, [44]⟩, ⟨4, 3, 4, [41]⟩, ⟨0, 4, 4, []⟩]
def X1 : Ex := .mk 9 0 5 [43] 0 zT [.mk 4 0 1 [97] 0 zT [], .mk 9 2 5 [42] 0 zT [.mk 4 2 3 [98] 0 zT [], .mk 4 4 5 [99] 0 zT []]]
theorem all1 : allV s1 = .tup [lsV Z1, .agg (dg 0 0)] := by kernel_rfl
theorem all2 : allV s2 = .tup [lsV Z2, .agg (dg 0 0)] := by kernel_rfl
theorem par1 : (fns Z1 40).expr 1 0 0 = .ok X1 5 := by kernel_rfl
theorem par2 : (fns Z2 40).expr 1 0 0 = .er 2 1 2 5 := by kernel_rfl
theorem awake_sp : SCall Go.Proofs.Tryd.prog [0] 11 [] none ⟨1000, og tOl, []⟩ (.ret (.bool true)) none ⟨1000, og tOl, []⟩ := by
 have a1 := all_at s1 (by decide) (by decide)
 have a2 := all_at s2 (by decide) (by decide)
 have p1 := parse_at Z1 (by decide) (by decide) 0 40 (Nat.zero_le _) (by rw [par1]; rfl)
 have p2 := parse_at Z2 (by decide) (by decide) 0 40 (Nat.zero_le _) (by rw [par2]; rfl)
 rw [all1] at a1
 rw [all2] at a2
 rw [par1] at p1
 rw [par2] at p2
 refine SCall.listed (fn := Go.Proofs.Tryd.f11) (by kernel_rfl) res11 (by kernel_rfl) (by kernel_rfl) (Nat.le_refl _) rfl ((by exact ⟨tabS_in, trivial⟩)) trivial ?_
 unfold rc11
 repeat (refine WR.seq ?_)
 refine WR.reg (WQ.runS [] 1000 _ _ _ _ rfl (WQ.nilS ?_))
 repeat (refine WR.seq ?_)
 refine WR.reg (WQ.callH rfl rfl rfl rfl rfl a1 .base rfl ?_)
 refine WQ.runS [] 1000 _ _ _ _ rfl (WQ.nilS ?_)
 repeat (refine WR.seq ?_)
 refine WR.reg (WQ.runS [] 1 _ _ _ _ rfl ?_)
 refine WQ.callH rfl rfl rfl rfl rfl (p1 _) .base rfl ?_
 refine WQ.runS [] 1000 _ _ _ _ rfl (WQ.nilS ?_)
 repeat (refine WR.seq ?_)
 refine WR.reg (WQ.callH rfl rfl rfl rfl rfl (SCall.relc a2 _) .base rfl ?_)
 refine WQ.runS [] 1000 _ _ _ _ rfl (WQ.nilS ?_)
 repeat (refine WR.seq ?_)
 refine WR.reg (WQ.runS [] 1 _ _ _ _ rfl ?_)
 refine WQ.callH rfl rfl rfl rfl rfl (p2 _) .base rfl ?_
 refine WQ.runS [] 1000 _ _ _ _ rfl (WQ.nilS ?_)
 repeat (refine WR.seq ?_)
 refine WR.reg (WQ.runS [] 1000 _ _ _ _ rfl (WQ.nilS ?_))
 repeat (refine WR.seq ?_)
 refine WR.condF rfl (WR.skip ?_)
 repeat (refine WR.seq ?_)
 refine WR.reg (WQ.runS [] 1000 _ _ _ _ rfl (WQ.nilS ?_))
 exact WR.ret ⟨rfl, rfl, ⟨_, rfl, VLe.refl _⟩, fun _ _ => rfl⟩
theorem lies_spec (s : List Nat) (h8 : ∀ c ∈ s, c < 256) (hN : s.length ≤ 200000000000000) : SCall Go.Proofs.Tryd.prog [0] 4 [.str s] none (hT 0 .u8 spaces) (.ret (.bool true)) none (hT 0 .u8 spaces) := lies_core s h8 hN awake_sp
end Go.VM
end
