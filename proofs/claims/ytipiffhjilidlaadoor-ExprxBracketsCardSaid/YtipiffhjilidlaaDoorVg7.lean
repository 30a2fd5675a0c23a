/- laid for this seat: RcXl VyA VyB VyC VyD VyE VyF VyG -/
import Derived.Test.YtipiffhjilidlaaDoorVmR
import Derived.Test.YtipiffhjilidlaaDoorProg
import Derived.ProofKit
import Derived.Test.YtipiffhjilidlaaDoorVg6
import Derived.Test.YtipiffhjilidlaaDoorVg2
section
set_option maxRecDepth 100000
namespace Go.VM
open Go.RowKit
def rc5 : RC := .seq (.reg [.op (.mv (.c (.bool false))) 2]) (.seq (.reg [.op (.call (.c (.fn (.func 11) [] [])) []) 15, .mv 15 3]) (.seq (.reg [.mv 0 17, .op (.call (.c (.fn (.func 12) [] [])) [.t 17]) 18, .mv 18 16, .op (.ext (.t 16) 0) 19, .op (.ext (.t 16) 1) 20, .op (.al [.int .i64 0, .int .i64 0]) 5, .mv 19 4, ⟨0, 0, some (.st (.t 5) (.t 20) 2), [], none, none⟩]) (.seq (.seq (.reg [.op (.fa (.t 5) 1) 21, .op (.ld (.t 21) none) 22, .op (.eq .int true (.t 22) (.c (.int .i64 0))) 23, .mv 23 24, ⟨0, 0, some (.mv (.t 4)), [], some 25, some (24, false)⟩, ⟨0, 0, some (.lenL (.t 25)), [], some 26, some (24, false)⟩, ⟨0, 0, some (.bin .gtr (.t 26) (.c (.int .i64 3990))), [], some 27, some (24, false)⟩, .op (.pick (.t 24) (.c (.bool true)) (.t 27)) 28]) (.cond (.t 28) (.seq (.reg [.mv 3 29, .mv 29 2]) .ret) .skip)) (.seq (.reg [.mv 4 31, .op (.call (.c (.fn (.func 13) [] [])) [.t 31, .c (.int .i64 0)]) 32, .mv 32 30, .op (.ext (.t 30) 0) 33, .op (.ext (.t 30) 1) 34, .op (.ext (.t 30) 2) 35, .op (.al [.int .i64 0, .int .i64 0, .int .i64 0, .str [], .int .i64 0, .int .i64 0, .int .i64 0, .str [], .str [], .lst [] (.ex 0), .lst [] (.ex 0)]) 6, .op (.al [.int .i64 0, .int .i64 0]) 8, ⟨0, 0, some (.st (.t 6) (.t 33) 11), [], none, none⟩, .mv 34 7, ⟨0, 0, some (.st (.t 8) (.t 35) 2), [], none, none⟩]) (.seq (.seq (.reg [.op (.fa (.t 8) 1) 36, .op (.ld (.t 36) none) 37, .op (.eq .int true (.t 37) (.c (.int .i64 0))) 38, .mv 38 39, ⟨0, 0, some (.mv (.t 7)), [], some 40, some (39, false)⟩, ⟨0, 0, some (.mv (.t 4)), [], some 41, some (39, false)⟩, ⟨0, 0, some (.lenL (.t 41)), [], some 42, some (39, false)⟩, ⟨0, 0, some (.bin .sub (.t 42) (.c (.int .i64 1))), [], some 43, some (39, false)⟩, ⟨0, 0, some (.eq .int true (.t 40) (.t 43)), [], some 44, some (39, false)⟩, .op (.pick (.t 39) (.c (.bool true)) (.t 44)) 45]) (.cond (.t 45) (.seq (.reg [.mv 3 46, .mv 46 2]) .ret) .skip)) (.seq (.reg [.mv 0 48, .op (.bin .add (.c (.str [40])) (.t 48)) 49, .op (.bin .add (.t 49) (.c (.str [10, 41]))) 50, .op (.call (.c (.fn (.func 12) [] [])) [.t 50]) 51, .mv 51 47, .op (.ext (.t 47) 0) 52, .op (.ext (.t 47) 1) 53, .op (.al [.int .i64 0, .int .i64 0]) 10, .mv 52 9, ⟨0, 0, some (.st (.t 10) (.t 53) 2), [], none, none⟩]) (.seq (.seq (.reg [.op (.fa (.t 10) 1) 54, .op (.ld (.t 54) none) 55, .op (.eq .int true (.t 55) (.c (.int .i64 0))) 56]) (.cond (.t 56) (.seq (.reg [.op (.mv (.c (.bool false))) 2]) .ret) .skip)) (.seq (.reg [.mv 9 58, .op (.call (.c (.fn (.func 13) [] [])) [.t 58, .c (.int .i64 0)]) 59, .mv 59 57, .op (.ext (.t 57) 0) 60, .op (.ext (.t 57) 1) 61, .op (.ext (.t 57) 2) 62, .op (.al [.int .i64 0, .int .i64 0, .int .i64 0, .str [], .int .i64 0, .int .i64 0, .int .i64 0, .str [], .str [], .lst [] (.ex 0), .lst [] (.ex 0)]) 11, .op (.al [.int .i64 0, .int .i64 0]) 13, ⟨0, 0, some (.st (.t 11) (.t 60) 11), [], none, none⟩, .mv 61 12, ⟨0, 0, some (.st (.t 13) (.t 62) 2), [], none, none⟩]) (.seq (.seq (.reg [.op (.fa (.t 13) 1) 63, .op (.ld (.t 63) none) 64, .op (.eq .int true (.t 64) (.c (.int .i64 0))) 65]) (.cond (.t 65) (.seq (.reg [.mv 3 66, .mv 66 67, ⟨0, 0, some (.fa (.t 13) 1), [], some 68, some (67, true)⟩, ⟨0, 0, some (.ld (.t 68) none), [], some 69, some (67, true)⟩, ⟨0, 0, some (.eq .int false (.t 69) (.c (.int .i64 6))), [], some 70, some (67, true)⟩, .op (.pick (.t 67) (.t 70) (.c (.bool false))) 71, .mv 71 2]) .ret) .skip)) (.seq (.reg [.op (.ld (.t 6) (some 11)) 72, .op (.ld (.t 11) (some 11)) 73, .op (.call (.c (.fn (.func 15) [] [])) [.t 72, .t 73, .c (.int .i64 1)]) 74, .mv 74 14]) (.seq (.reg [.mv 3 75, .mv 75 76, ⟨0, 0, some (.mv (.t 14)), [], some 77, some (76, true)⟩, .op (.pick (.t 76) (.t 77) (.c (.bool false))) 78, .mv 78 79, ⟨0, 0, some (.mv (.t 12)), [], some 80, some (79, true)⟩, ⟨0, 0, some (.mv (.t 7)), [], some 81, some (79, true)⟩, ⟨0, 0, some (.bin .add (.t 81) (.c (.int .i64 2))), [], some 82, some (79, true)⟩, ⟨0, 0, some (.eq .int false (.t 80) (.t 82)), [], some 83, some (79, true)⟩, .op (.pick (.t 79) (.t 83) (.c (.bool false))) 84, .mv 84 2]) .ret)))))))))))
theorem res5 : (Go.Proofs.Tryd.f5.body).bind (resC Go.Proofs.Tryd.prog) = some rc5 := by kernel_rfl
def rc11 : RC := .seq (.reg [.op (.mv (.c (.bool false))) 0]) (.seq (.reg [.op (.call (.c (.fn (.func 12) [] [])) [.c (.str [97, 43, 98, 42, 99, 59])]) 12, .mv 12 11, .op (.ext (.t 11) 0) 13, .op (.ext (.t 11) 1) 14, .op (.al [.int .i64 0, .int .i64 0]) 2, .mv 13 1, ⟨0, 0, some (.st (.t 2) (.t 14) 2), [], none, none⟩]) (.seq (.reg [.mv 1 16, .op (.call (.c (.fn (.func 13) [] [])) [.t 16, .c (.int .i64 0)]) 17, .mv 17 15, .op (.ext (.t 15) 0) 18, .op (.ext (.t 15) 1) 19, .op (.ext (.t 15) 2) 20, .op (.al [.int .i64 0, .int .i64 0, .int .i64 0, .str [], .int .i64 0, .int .i64 0, .int .i64 0, .str [], .str [], .lst [] (.ex 0), .lst [] (.ex 0)]) 3, .op (.al [.int .i64 0, .int .i64 0]) 5, ⟨0, 0, some (.st (.t 3) (.t 18) 11), [], none, none⟩, .mv 19 4, ⟨0, 0, some (.st (.t 5) (.t 20) 2), [], none, none⟩]) (.seq (.reg [.op (.call (.c (.fn (.func 12) [] [])) [.c (.str [102, 40, 44, 41])]) 22, .mv 22 21, .op (.ext (.t 21) 0) 23, .op (.ext (.t 21) 1) 24, .op (.al [.int .i64 0, .int .i64 0]) 7, .mv 23 6, ⟨0, 0, some (.st (.t 7) (.t 24) 2), [], none, none⟩]) (.seq (.reg [.mv 6 26, .op (.call (.c (.fn (.func 13) [] [])) [.t 26, .c (.int .i64 0)]) 27, .mv 27 25, .op (.ext (.t 25) 0) 28, .op (.ext (.t 25) 1) 29, .op (.ext (.t 25) 2) 30, .op (.al [.int .i64 0, .int .i64 0, .int .i64 0, .str [], .int .i64 0, .int .i64 0, .int .i64 0, .str [], .str [], .lst [] (.ex 0), .lst [] (.ex 0)]) 8, .op (.al [.int .i64 0, .int .i64 0]) 10, ⟨0, 0, some (.st (.t 8) (.t 28) 11), [], none, none⟩, .mv 29 9, ⟨0, 0, some (.st (.t 10) (.t 30) 2), [], none, none⟩]) (.seq (.seq (.reg [.op (.fa (.t 3) 10) 31, .op (.ld (.t 31) none) 32, .op (.lenL (.t 32)) 33, .op (.eq .int true (.t 33) (.c (.int .i64 2))) 34, .mv 34 35, ⟨0, 0, some (.fa (.t 3) 10), [], some 36, some (35, false)⟩, ⟨0, 0, some (.ld (.t 36) none), [], some 37, some (35, false)⟩, ⟨0, 0, some (.ia (.t 37) (.c (.int .i64 1)) 11), [], some 38, some (35, false)⟩, ⟨0, 0, some (.fa (.t 38) 10), [], some 39, some (35, false)⟩, ⟨0, 0, some (.ld (.t 39) none), [], some 40, some (35, false)⟩, ⟨0, 0, some (.lenL (.t 40)), [], some 41, some (35, false)⟩, ⟨0, 0, some (.eq .int true (.t 41) (.c (.int .i64 2))), [], some 42, some (35, false)⟩, .op (.pick (.t 35) (.c (.bool true)) (.t 42)) 43]) (.cond (.t 43) (.seq (.reg [.op (.mv (.c (.bool false))) 0]) .ret) .skip)) (.seq (.reg [.op (.fa (.t 3) 0) 44, .op (.ld (.t 44) none) 45, .op (.eq .int false (.t 45) (.c (.int .i64 9))) 46, .mv 46 47, ⟨0, 0, some (.fa (.t 3) 3), [], some 48, some (47, true)⟩, ⟨0, 0, some (.ld (.t 48) none), [], some 49, some (47, true)⟩, ⟨0, 0, some (.eq .str false (.t 49) (.c (.str [43]))), [], some 50, some (47, true)⟩, .op (.pick (.t 47) (.t 50) (.c (.bool false))) 51, .mv 51 52, ⟨0, 0, some (.fa (.t 3) 2), [], some 53, some (52, true)⟩, ⟨0, 0, some (.ld (.t 53) none), [], some 54, some (52, true)⟩, ⟨0, 0, some (.eq .int false (.t 54) (.c (.int .i64 5))), [], some 55, some (52, true)⟩, .op (.pick (.t 52) (.t 55) (.c (.bool false))) 56, .mv 56 57, ⟨0, 0, some (.fa (.t 3) 10), [], some 58, some (57, true)⟩, ⟨0, 0, some (.ld (.t 58) none), [], some 59, some (57, true)⟩, ⟨0, 0, some (.ia (.t 59) (.c (.int .i64 1)) 11), [], some 60, some (57, true)⟩, ⟨0, 0, some (.fa (.t 60) 3), [], some 61, some (57, true)⟩, ⟨0, 0, some (.ld (.t 61) none), [], some 62, some (57, true)⟩, ⟨0, 0, some (.eq .str false (.t 62) (.c (.str [42]))), [], some 63, some (57, true)⟩, .op (.pick (.t 57) (.t 63) (.c (.bool false))) 64, .mv 64 65, ⟨0, 0, some (.fa (.t 3) 10), [], some 66, some (65, true)⟩, ⟨0, 0, some (.ld (.t 66) none), [], some 67, some (65, true)⟩, ⟨0, 0, some (.ia (.t 67) (.c (.int .i64 1)) 11), [], some 68, some (65, true)⟩, ⟨0, 0, some (.fa (.t 68) 10), [], some 69, some (65, true)⟩, ⟨0, 0, some (.ld (.t 69) none), [], some 70, some (65, true)⟩, ⟨0, 0, some (.ia (.t 70) (.c (.int .i64 0)) 11), [], some 71, some (65, true)⟩, ⟨0, 0, some (.fa (.t 71) 3), [], some 72, some (65, true)⟩, ⟨0, 0, some (.ld (.t 72) none), [], some 73, some (65, true)⟩, ⟨0, 0, some (.eq .str false (.t 73) (.c (.str [98]))), [], some 74, some (65, true)⟩, .op (.pick (.t 65) (.t 74) (.c (.bool false))) 75, .mv 75 76, ⟨0, 0, some (.mv (.t 4)), [], some 77, some (76, true)⟩, ⟨0, 0, some (.eq .int false (.t 77) (.c (.int .i64 5))), [], some 78, some (76, true)⟩, .op (.pick (.t 76) (.t 78) (.c (.bool false))) 79, .mv 79 80, ⟨0, 0, some (.ld (.t 5) (some 2)), [], some 81, some (80, true)⟩, ⟨0, 0, some (.bld [.int .i64 0, .int .i64 0] [(0, 1), (1, 1)] []), [], some 82, some (80, true)⟩, ⟨0, 0, some (.eq (.st [(0, .int), (1, .int)]) false (.t 81) (.t 82)), [], some 83, some (80, true)⟩, .op (.pick (.t 80) (.t 83) (.c (.bool false))) 84, .mv 84 85, ⟨0, 0, some (.ld (.t 10) (some 2)), [], some 86, some (85, true)⟩, ⟨0, 0, some (.bld [.int .i64 0, .int .i64 0] [(0, 1), (1, 1)] [(0, .c (.int .i64 2)), (1, .c (.int .i64 5))]), [], some 87, some (85, true)⟩, ⟨0, 0, some (.eq (.st [(0, .int), (1, .int)]) false (.t 86) (.t 87)), [], some 88, some (85, true)⟩, .op (.pick (.t 85) (.t 88) (.c (.bool false))) 89, .mv 89 0]) .ret))))))
theorem res11 : (Go.Proofs.Tryd.f11.body).bind (resC Go.Proofs.Tryd.prog) = some rc11 := by kernel_rfl
def rc15_J1 : RC := .reg [.mv 7 60, .op (.bin .add (.t 60) (.c (.int .i64 1))) 61, .mv 61 7]
def rc15_L1 : RC := .seq (.seq (.reg [.mv 7 55, .op (.fa (.t 3) 10) 56, .op (.ld (.t 56) none) 57, .op (.lenL (.t 57)) 58, .op (.bin .lss (.t 55) (.t 58)) 59]) (.cond (.t 59) .skip (.exit 0))) (.seq (.block 1 (.seq (.dreg [⟨0, 0, some (.fa (.t 3) 10), [3], some 62, none⟩, ⟨1, 1, some (.ld (.t 62) none), [62], some 63, none⟩, ⟨2, 0, some (.mv (.t 7)), [7], some 64, none⟩, ⟨3, 7, some (.ia (.t 63) (.t 64) 11), [63, 64], some 65, none⟩, ⟨4, 15, some (.ld (.t 65) (some 11)), [65], some 66, none⟩, ⟨5, 0, some (.fa (.t 4) 10), [4], some 67, none⟩, ⟨6, 32, some (.ld (.t 67) none), [67], some 68, none⟩, ⟨7, 0, some (.mv (.t 7)), [7], some 69, none⟩, ⟨8, 224, some (.ia (.t 68) (.t 69) 11), [68, 69], some 70, none⟩, ⟨9, 480, some (.ld (.t 70) (some 11)), [70], some 71, none⟩, ⟨10, 0, some (.mv (.t 2)), [2], some 72, none⟩] [(⟨11, 2047, some (.call (.c (.fn (.func 15) [] [])) [.t 66, .t 71, .t 72]), [66, 71, 72], some 73, none⟩, [⟨12, 4095, some (.mv (.t 73)), [73], some 8, none⟩])] [62, 63, 64, 65, 66, 67, 68, 69, 70, 71, 72, 73, 8]) (.seq (.reg [.mv 8 74, .op (.un .not (.t 74)) 75]) (.cond (.t 75) (.seq (.reg [.op (.mv (.c (.bool false))) 6]) .ret) .skip)))) rc15_J1)
def rc15_J2 : RC := .seq (.reg [.op (.mv (.c (.bool true))) 6]) .ret
def rc15 : RC := .seq (.reg [.op (.bx (.t 0)) 3, .op (.bx (.t 1)) 4, .op (.mv (.c (.bool false))) 6]) (.seq (.seq (.reg [.op (.fa (.t 3) 0) 9, .op (.ld (.t 9) none) 10, .op (.fa (.t 4) 0) 11, .op (.ld (.t 11) none) 12, .op (.eq .int true (.t 10) (.t 12)) 13, .mv 13 14, ⟨0, 0, some (.fa (.t 3) 1), [], some 15, some (14, false)⟩, ⟨0, 0, some (.ld (.t 15) none), [], some 16, some (14, false)⟩, ⟨0, 0, some (.mv (.t 2)), [], some 17, some (14, false)⟩, ⟨0, 0, some (.bin .add (.t 16) (.t 17)), [], some 18, some (14, false)⟩, ⟨0, 0, some (.fa (.t 4) 1), [], some 19, some (14, false)⟩, ⟨0, 0, some (.ld (.t 19) none), [], some 20, some (14, false)⟩, ⟨0, 0, some (.eq .int true (.t 18) (.t 20)), [], some 21, some (14, false)⟩, .op (.pick (.t 14) (.c (.bool true)) (.t 21)) 22, .mv 22 23, ⟨0, 0, some (.fa (.t 3) 2), [], some 24, some (23, false)⟩, ⟨0, 0, some (.ld (.t 24) none), [], some 25, some (23, false)⟩, ⟨0, 0, some (.mv (.t 2)), [], some 26, some (23, false)⟩, ⟨0, 0, some (.bin .add (.t 25) (.t 26)), [], some 27, some (23, false)⟩, ⟨0, 0, some (.fa (.t 4) 2), [], some 28, some (23, false)⟩, ⟨0, 0, some (.ld (.t 28) none), [], some 29, some (23, false)⟩, ⟨0, 0, some (.eq .int true (.t 27) (.t 29)), [], some 30, some (23, false)⟩, .op (.pick (.t 23) (.c (.bool true)) (.t 30)) 31, .mv 31 32, ⟨0, 0, some (.fa (.t 3) 3), [], some 33, some (32, false)⟩, ⟨0, 0, some (.ld (.t 33) none), [], some 34, some (32, false)⟩, ⟨0, 0, some (.fa (.t 4) 3), [], some 35, some (32, false)⟩, ⟨0, 0, some (.ld (.t 35) none), [], some 36, some (32, false)⟩, ⟨0, 0, some (.eq .str true (.t 34) (.t 36)), [], some 37, some (32, false)⟩, .op (.pick (.t 32) (.c (.bool true)) (.t 37)) 38, .mv 38 39, ⟨0, 0, some (.fa (.t 3) 4), [], some 40, some (39, false)⟩, ⟨0, 0, some (.ld (.t 40) none), [], some 41, some (39, false)⟩, ⟨0, 0, some (.fa (.t 4) 4), [], some 42, some (39, false)⟩, ⟨0, 0, some (.ld (.t 42) none), [], some 43, some (39, false)⟩, ⟨0, 0, some (.eq .int true (.t 41) (.t 43)), [], some 44, some (39, false)⟩, .op (.pick (.t 39) (.c (.bool true)) (.t 44)) 45, .mv 45 46, ⟨0, 0, some (.fa (.t 3) 10), [], some 47, some (46, false)⟩, ⟨0, 0, some (.ld (.t 47) none), [], some 48, some (46, false)⟩, ⟨0, 0, some (.lenL (.t 48)), [], some 49, some (46, false)⟩, ⟨0, 0, some (.fa (.t 4) 10), [], some 50, some (46, false)⟩, ⟨0, 0, some (.ld (.t 50) none), [], some 51, some (46, false)⟩, ⟨0, 0, some (.lenL (.t 51)), [], some 52, some (46, false)⟩, ⟨0, 0, some (.eq .int true (.t 49) (.t 52)), [], some 53, some (46, false)⟩, .op (.pick (.t 46) (.c (.bool true)) (.t 53)) 54]) (.cond (.t 54) (.seq (.reg [.op (.mv (.c (.bool false))) 6]) .ret) .skip)) (.seq (.seq (.reg [.op (.mv (.c (.int .i64 0))) 7]) (.block 0 (.loop rc15_L1))) rc15_J2))
theorem res15 : (Go.Proofs.Tryd.f15.body).bind (resC Go.Proofs.Tryd.prog) = some rc15 := by kernel_rfl
end Go.VM
end
section
/- Expressions of a text: the tokens of a text lie one behind the other. -/
set_option maxRecDepth 100000
set_option linter.unusedVariables false
set_option linter.unusedSimpArgs false
namespace Go.VM
open Go.RowKit
def toZ (t : Tk) : Tz := ⟨t.kind, t.a, t.e, t.text⟩
theorem encTks_Z (l : List Tk) : l.map encTk = (l.map toZ).map encTz := by rw [List.map_map]; rfl
theorem tokF_a {s : List Nat} {i c : Nat} (h : (tokF s i c).2 = 0) : (tokF s i c).1.a = i ∧ (tokF s i c).1.kind ≤ 5 := by
 cases hL : letterB c with
 | true =>
  rw [tokF_letter hL]
  refine ⟨rfl, ?_⟩
  dsimp only
  split <;> decide
 | false =>
 cases hD : digitB c with
 | true => rw [tokF_digit hL hD]; exact ⟨rfl, by show 2 ≤ 5; decide⟩
 | false =>
 by_cases h34 : c = 34
 ·rw [tokF_quot hL hD h34] at h ⊢
  unfold quotF at h ⊢
  split at h
  ·cases h
  ·exact ⟨rfl, by show 3 ≤ 5; decide⟩
 cases hp : (pfxB (s.drop i) [61, 61] || pfxB (s.drop i) [38, 38]) with
 | true => rw [tokF_two hL hD h34 hp]; exact ⟨rfl, by show 4 ≤ 5; decide⟩
 | false => rw [tokF_one hL hD h34 hp]; exact ⟨rfl, by show 4 ≤ 5; decide⟩
def Tl (N : Nat) : Nat → List Tk → Prop
 | _, [] => False
 | i, [t] => t = ⟨0, N, N, []⟩ ∧ i ≤ N
 | i, t :: u :: r => i ≤ t.a ∧ t.a < t.e ∧ t.e ≤ N ∧ t.text.length ≤ N ∧ Tl N t.e (u :: r)
theorem Tl.cons {N i : Nat} {t : Tk} {r : List Tk} (h1 : i ≤ t.a) (h2 : t.a < t.e) (h3 : t.e ≤ N) (h4 : t.text.length ≤ N) (h : Tl N t.e r) : Tl N i (t :: r) := by
 cases r with
 | nil => exact h.elim
 | cons u r => exact ⟨h1, h2, h3, h4, h⟩
theorem Tl.le {N i j : Nat} {r : List Tk} (h : Tl N i r) (hj : j ≤ i) : Tl N j r := by
 match r, h with
 | [t], h => exact ⟨h.1, Nat.le_trans hj h.2⟩
 | t :: u :: r, h => exact ⟨Nat.le_trans hj h.1, h.2⟩
theorem lexL_tl (s : List Nat) : ∀ (m i : Nat) (l T : List Tk) (x : Nat), i ≤ s.length → s.length + 1 ≤ m + i → lexL s m i l = (T, x, 0) → ∃ r, T = l ++ r ∧ Tl s.length i r := by
 intro m
 induction m with
 | zero => intro i l T x h1 h2; omega
 | succ m ih =>
  intro i l T x h1 h2 h
  simp only [lexL] at h
  cases hc : s[i]? with
  | none =>
   rw [hc] at h
   cases h
   have : s.length ≤ i := List.getElem?_eq_none_iff.1 hc
   exact ⟨[endTk s], rfl, rfl, h1⟩
  | some c =>
   rw [hc] at h
   simp only [tokW] at h
   split at h
   ·rename_i t ht
    have h0 : (tokF s i c).1 = t := by rw [Prod.mk.injEq] at ht; exact ht.1
    have hz : (tokF s i c).2 = 0 := by
     rw [Prod.mk.injEq] at ht
     have h2 := ht.2
     split at h2
     ·cases h2
     ·exact h2
    have hp := tokF_pos hc hz
    have ha := tokF_a hz
    rw [h0] at hp ha
    obtain ⟨r, hr, htl⟩ := ih _ _ _ _ (skipF_le s _ _ hp.2.1) (by have := skipF_ge s (s.length + 1) t.e; omega) h
    refine ⟨{ t with text := (s.drop i).take (t.e - i) } :: r, by rw [hr]; simp, ?_⟩
    refine Tl.cons (by show i ≤ t.a; omega) (by show t.a < t.e; omega) hp.2.1 ?_ (htl.le (skipF_ge s _ _))
    show ((s.drop i).take (t.e - i)).length ≤ _
    rw [List.length_take, List.length_drop]
    omega
   ·rename_i h3; cases h
theorem lexR_tl {s : List Nat} {T : List Tk} {x : Nat} (h : lexR s = (T, x, 0)) : Tl s.length 0 T := by
 obtain ⟨r, hr, ht⟩ := lexL_tl s _ _ _ _ _ (skipF_le s _ _ (Nat.zero_le _)) (by omega) h
 rw [hr]
 exact ht.le (Nat.zero_le _)
structure GoodT (N : Nat) (l : List Tz) : Prop where
 pos : 1 ≤ l.length
 last : ∀ t, l[l.length - 1]? = some t → t = ⟨0, N, N, []⟩
 tok : ∀ i t, l[i]? = some t → i + 1 < l.length → 0 ≤ t.a ∧ t.a < t.e ∧ t.e ≤ (N : Int) ∧ t.t.length ≤ N
 next : ∀ i t u, l[i]? = some t → l[i + 1]? = some u → t.e ≤ u.a
theorem Tl.good {N : Nat} : ∀ {i : Nat} {r : List Tk}, Tl N i r → GoodT N (r.map toZ) ∧ ∀ t, (r.map toZ)[0]? = some t → (i : Int) ≤ t.a
 | i, [t], h => by
  obtain ⟨rfl, h2⟩ := h
  refine ⟨⟨Nat.le_refl _, fun t ht => by simpa [toZ] using ht.symm, fun j t ht hj => ?_, fun j t u ht hu => ?_⟩, fun t ht => ?_⟩
  ·simp at hj
  ·simp at hu
  ·simp [toZ] at ht
   subst ht
   show (i : Int) ≤ (N : Int)
   omega
 | i, t :: u :: r, h => by
  obtain ⟨h1, h2, h3, h4, h5⟩ := h
  obtain ⟨g, g0⟩ := Tl.good h5
  refine ⟨⟨by simp, fun x hx => ?_, fun j x hx hj => ?_, fun j x y hx hy => ?_⟩, fun x hx => ?_⟩
  ·refine g.last x ?_
   have e : ((t :: u :: r).map toZ).length - 1 = (((u :: r).map toZ).length - 1) + 1 := by simp
   rw [e, List.map_cons, List.getElem?_cons_succ] at hx
   exact hx
  ·cases j with
   | zero =>
    simp only [List.map_cons, List.getElem?_cons_zero, Option.some.injEq] at hx
    subst hx
    simp only [toZ]
    omega
   | succ j =>
    rw [List.map_cons, List.getElem?_cons_succ] at hx
    exact g.tok j x hx (by simp at hj ⊢; omega)
  ·cases j with
   | zero =>
    simp only [List.map_cons, List.getElem?_cons_zero, Option.some.injEq] at hx
    subst hx
    rw [List.map_cons, List.getElem?_cons_succ] at hy
    exact g0 y hy
   | succ j =>
    rw [List.map_cons, List.getElem?_cons_succ] at hx hy
    exact g.next j x y hx hy
  ·simp only [List.map_cons, List.getElem?_cons_zero, Option.some.injEq] at hx
   subst hx
   simp only [toZ]
   omega
theorem lexR_good {s : List Nat} {T : List Tk} {x : Nat} (h : lexR s = (T, x, 0)) : GoodT s.length (T.map toZ) := (lexR_tl h).good.1
end Go.VM
end
section
/- Expressions of a text: parts lie within, one behind the other. -/
set_option maxRecDepth 100000
set_option linter.unusedVariables false
set_option linter.unusedSimpArgs false
namespace Go.VM
open Go.RowKit
theorem now_of {l : List Tz} {i : Nat} (h : i < l.length) : l[i]? = some (nowF l i) := by
 rw [nowF, List.getElem?_eq_getElem h]
section
variable {N : Nat} {l : List Tz}
theorem GoodT.kind (g : GoodT N l) {i : Nat} (h : (nowF l i).k ≠ 0) : i + 1 < l.length := by
 have h1 := now_lt h
 rcases Nat.lt_or_ge (i + 1) l.length with q | q
 ·exact q
 ·have := g.last (nowF l i) (by rw [show l.length - 1 = i by omega]; exact now_of h1)
  rw [this] at h; exact absurd rfl h
theorem GoodT.lt (g : GoodT N l) {i : Nat} (h : i + 1 < l.length) : (nowF l i).a < (nowF l i).e := (g.tok i _ (now_of (by omega)) h).2.1
theorem GoodT.step (g : GoodT N l) {i : Nat} (h : i + 1 < l.length) : (nowF l i).e ≤ (nowF l (i + 1)).a := g.next i _ _ (now_of (by omega)) (now_of h)
theorem GoodT.sorted (g : GoodT N l) : ∀ {i j : Nat}, i < j → j < l.length → (nowF l i).e ≤ (nowF l j).a := by
 intro i j
 induction j with
 | zero => intro h; omega
 | succ j ih =>
  intro h1 h2
  have h3 := g.step (i := j) h2
  rcases Nat.lt_or_ge i j with q | q
  ·have := ih q (by omega)
   have := g.lt (i := j) h2
   omega
  ·have : i = j := by omega
   subst this; exact h3
theorem GoodT.mono (g : GoodT N l) {i j : Nat} (h : i ≤ j) (hj : j < l.length) : (nowF l i).a ≤ (nowF l j).a := by
 rcases Nat.eq_or_lt_of_le h with e | e
 ·rw [e]; omega
 ·have := g.sorted e hj
  have := g.lt (i := i) (by omega)
  omega
theorem GoodT.range (g : GoodT N l) (i : Nat) : 0 ≤ (nowF l i).a ∧ (nowF l i).a ≤ (N : Int) := by
 have hp := g.pos
 have hl := g.last _ (now_of (i := l.length - 1) (by omega))
 rcases Nat.lt_or_ge i l.length with h | h
 ·rcases Nat.lt_or_ge (i + 1) l.length with q | q
  ·have := g.tok i _ (now_of h) q; omega
  ·rw [show i = l.length - 1 by omega, hl]; simp
 ·rw [nowF_none h]
  have : lastE l = (N : Int) := by rw [lastE_at (now_of (i := l.length - 1) (by omega)), hl]
  rw [this]; simp
end
mutual
def lies : Ex → Prop
 | .mk _ a e _ _ _ args => chain a args e
def chain : Int → List Ex → Int → Prop
 | lo, [], hi => lo ≤ hi
 | lo, x :: r, hi => lo ≤ x.at' ∧ x.at' < x.en ∧ lies x ∧ chain x.en r hi
end
theorem chain.up : ∀ {r : List Ex} {lo hi hi' : Int}, chain lo r hi → hi ≤ hi' → chain lo r hi'
 | [], lo, hi, hi', h, k => by
  have h : lo ≤ hi := h
  show lo ≤ hi'; omega
 | x :: r, lo, hi, hi', h, k => ⟨h.1, h.2.1, h.2.2.1, chain.up h.2.2.2 k⟩
theorem chain.down {r : List Ex} {lo lo' hi : Int} (h : chain lo r hi) (k : lo' ≤ lo) : chain lo' r hi := by
 cases r with
 | nil =>
  have h : lo ≤ hi := h
  show lo' ≤ hi; omega
 | cons x r => exact ⟨by have := h.1; omega, h.2⟩
theorem chain.app : ∀ {r : List Ex} {lo hi hi' : Int} {x : Ex}, chain lo r hi → hi ≤ x.at' → x.at' < x.en → lies x → x.en ≤ hi' → chain lo (r ++ [x]) hi'
 | [], lo, hi, hi', x, h, h1, h2, h3, h4 => by
  have h : lo ≤ hi := h
  exact ⟨by omega, h2, h3, h4⟩
 | y :: r, lo, hi, hi', x, h, h1, h2, h3, h4 => ⟨h.1, h.2.1, h.2.2.1, chain.app h.2.2.2 h1 h2 h3 h4⟩
structure Span (l : List Tz) (a a' : Nat) (x : Ex) : Prop where
 lt : a < a'
 len : a' < l.length
 lo : (nowF l a).a ≤ x.at'
 mid : x.at' < x.en
 hi : x.en ≤ (nowF l (a' - 1)).e
 lies : lies x
structure SpanL (l : List Tz) (a a2 : Nat) (r : List Ex × Int) : Prop where
 lt : a + 1 < a2
 len : a2 < l.length
 chain : chain (nowF l a).e r.1 (nowF l (a2 - 1)).a
 en : r.2 = (nowF l (a2 - 1)).e
structure LieF (l : List Tz) (f : Fns) : Prop where
 expr : ∀ lv a d x a', f.expr lv a d = .ok x a' → Span l a a' x
 oper : ∀ a d x a', f.oper a d = .ok x a' → Span l a a' x
 prim : ∀ a d x a', f.prim a d = .ok x a' → Span l a a' x
 list : ∀ to a d r a2, a + 1 < l.length → f.list to a d = .ok r a2 → SpanL l a a2 r
 bin : ∀ b lv x a d y a', Span l b a x → f.bin lv x a d = .ok y a' → Span l b a' y
 post : ∀ b x a d y a', Span l b a x → f.post x a d = .ok y a' → Span l b a' y
 elts : ∀ lo acc a d es a', chain lo acc (nowF l a).a → f.elts acc a d = .ok es a' → chain lo es (nowF l a').a ∧ a < a' ∧ a' < l.length
theorem bind_ok {α β : Type} {r : R α} {f : α → Nat → R β} {v : β} {a : Nat} (h : r.bind f = .ok v a) : ∃ x a1, r = .ok x a1 ∧ f x a1 = .ok v a := by
 cases r with
 | ok x a1 => exact ⟨x, a1, rfl, h⟩
 | er _ _ _ _ => cases h
 | out => cases h
theorem within_okD {α : Type} {l : List Tz} {a d : Nat} {f : Nat → Nat → R α} {v : α} {a' : Nat} (h : withinF l a d f = .ok v a') : f (a + 1) (d + 1) = .ok v a' := by
 unfold withinF at h
 split at h
 ·cases h
 ·exact h
theorem must_okD {l : List Tz} {a d : Nat} {s : List Nat} {e : Int} {a1 : Nat} (h : mustF l a d s = .ok e a1) : e = (nowF l a).e ∧ a1 = a + 1 ∧ (nowF l a).k = 4 := by
 unfold mustF at h
 split at h
 ·rename_i hi
  cases h
  unfold isF at hi
  simp only [Bool.and_eq_true, decide_eq_true_eq] at hi
  exact ⟨rfl, rfl, hi.1⟩
 ·cases h
theorem isF_k {l : List Tz} {a : Nat} {k : Int} {s : List Nat} (h : isF l a k s = true) : (nowF l a).k = k := by
 unfold isF at h
 simp only [Bool.and_eq_true, decide_eq_true_eq] at h
 exact h.1
section
variable {N : Nat} {l : List Tz}
theorem Span.end' (g : GoodT N l) {a a' : Nat} {x : Ex} (s : Span l a a' x) : x.en ≤ (nowF l a').a := by
 have := g.sorted (i := a' - 1) (j := a') (by have := s.lt; omega) s.len
 have := s.hi
 omega
theorem one_token (g : GoodT N l) {a : Nat} (hk : (nowF l a).k ≠ 0) (k : Nat) (nm : List Nat) (n : Int) (t : Tx) : Span l a (a + 1) (.mk k (nowF l a).a (nowF l a).e nm n t []) := by
 have h := g.kind hk
 have := g.lt h
 exact ⟨Nat.lt_succ_self _, h, Int.le_refl _, this, Int.le_refl _, Int.le_of_lt this⟩
theorem lie_next (g : GoodT N l) {f : Fns} (h : LieF l f) : LieF l ⟨nExpr f, nOper l f, nPrim l f, nList l f, nBin l f, nPost l f, nElts l f⟩ := by
 refine ⟨fun lv a d x a' e => ?_, fun a d x a' e => ?_, fun a d x a' e => ?_, fun to a d r a2 ha e => ?_, fun b lv x a d y a' s e => ?_, fun b x a d y a' s e => ?_, fun lo acc a d es a' hc e => ?_⟩
 ·have e : nExpr f lv a d = .ok x a' := e
  unfold nExpr at e
  split at e
  ·exact h.oper _ _ _ _ e
  ·obtain ⟨y, a1, e1, e2⟩ := bind_ok e
   exact h.bin _ _ _ _ _ _ _ (h.expr _ _ _ _ _ e1) e2
 ·have e : nOper l f a d = .ok x a' := e
  unfold nOper at e
  split at e
  ·rename_i hi
   obtain ⟨y, a1, e1, e2⟩ := bind_ok e
   have s := h.oper _ _ _ _ (within_okD e1)
   cases e2
   have hk := g.kind (i := a) (by rw [isF_k hi]; decide)
   have h1 := g.lt hk
   have h2 := g.step hk
   have := s.lo; have := s.mid; have := s.lt
   exact ⟨by omega, s.len, Int.le_refl _, by show (nowF l a).a < y.en; omega, s.hi, ⟨by show (nowF l a).a ≤ y.at'; omega, s.mid, s.lies, Int.le_refl _⟩⟩
  ·obtain ⟨y, a1, e1, e2⟩ := bind_ok e
   exact h.post _ _ _ _ _ _ (h.prim _ _ _ _ e1) e2
 ·have e : nPrim l f a d = .ok x a' := e
  unfold nPrim at e
  split at e
  ·rename_i hk
   obtain ⟨n, a1, e1, e2⟩ := bind_ok e
   cases e2
   exact one_token g (by rw [of_decide_eq_true hk]; decide) _ _ _ _
  ·split at e
   ·rename_i hk
    split at e
    ·cases e
     exact one_token g (by rw [of_decide_eq_true hk]; decide) _ _ _ _
    ·cases e
   ·split at e
    ·rename_i hi
     cases e
     exact one_token g (by rw [isF_k hi]; decide) _ _ _ _
    ·split at e
     ·rename_i hi
      cases e
      exact one_token g (by rw [isF_k hi]; decide) _ _ _ _
     ·split at e
      ·rename_i hk
       cases e
       exact one_token g (by rw [of_decide_eq_true hk]; decide) _ _ _ _
      ·split at e
       ·rename_i hi
        obtain ⟨y, a1, e1, e2⟩ := bind_ok e
        obtain ⟨z, a2, e3, e4⟩ := bind_ok e2
        cases e4
        have s := h.expr _ _ _ _ _ (within_okD e1)
        obtain ⟨_, q2, q3⟩ := must_okD e3
        have hk2 := g.kind (i := a1) (by rw [q3]; decide)
        have := g.mono (i := a) (j := a + 1) (by omega) (by have := s.lt; have := s.len; omega)
        have := s.lo; have := s.end' g; have := g.lt hk2; have := s.lt
        subst q2
        exact ⟨by omega, hk2, by omega, s.mid, by show _ ≤ (nowF l (a1 + 1 - 1)).e; rw [Nat.add_sub_cancel]; omega, s.lies⟩
       ·split at e
        ·rename_i hi
         unfold madeF at e
         split at e
         ·rename_i ty a1 ht
          have q := tyF_fwd ht
          split at e
          ·rename_i hi2
           have hk2 := g.kind (i := a1) (by rw [isF_k hi2]; decide)
           obtain ⟨r, a2, e1, e2⟩ := bind_ok e
           cases e2
           have s := h.list _ _ _ _ _ hk2 e1
           have h1 := g.mono (i := a) (j := a1) (by omega) (by omega)
           have h2 := g.lt hk2
           have h3 := g.sorted (i := a1) (j := a' - 1) (by have := s.lt; omega) (by have := s.len; omega)
           have h4 := g.lt (i := a' - 1) (by have := s.len; have := s.lt; omega)
           have h5 := s.en
           have := s.lt
           exact ⟨by omega, s.len, Int.le_refl _, by show (nowF l a).a < r.2; omega, by show r.2 ≤ _; omega, (s.chain.down (by omega)).up (by omega)⟩
          ·cases e
         ·cases e
         ·cases e
        ·cases e
 ·have e : nList l f to a d = .ok r a2 := e
  unfold nList at e
  obtain ⟨es, a1, e1, e2⟩ := bind_ok e
  obtain ⟨z, a3, e3, e4⟩ := bind_ok e2
  cases e4
  have e1 := within_okD e1
  obtain ⟨q1, q2, q3⟩ := must_okD e3
  have hk2 := g.kind (i := a1) (by rw [q3]; decide)
  subst q2
  have hc : chain (nowF l a).e es (nowF l a1).a ∧ a < a1 := by
   unfold nElt0 at e1
   split at e1
   ·cases e1
    exact ⟨g.step ha, Nat.lt_succ_self _⟩
   ·have := h.elts (nowF l a).e [] (a + 1) (d + 1) es a1 (g.step ha) e1
    exact ⟨this.1, by omega⟩
  exact ⟨by omega, hk2, by show chain _ es (nowF l (a1 + 1 - 1)).a; rw [Nat.add_sub_cancel]; exact hc.1, by show z = _; rw [Nat.add_sub_cancel]; exact q1⟩
 ·have e : nBin l f lv x a d = .ok y a' := e
  unfold nBin at e
  split at e
  ·rename_i hb
   obtain ⟨z, a2, e1, e2⟩ := bind_ok e
   have s2 := h.expr _ _ _ _ _ e1
   unfold binB at hb
   simp only [Bool.and_eq_true, decide_eq_true_eq] at hb
   have hk := g.kind (i := a) (by rw [hb.1]; decide)
   have h1 := s.end' g
   have h2 := g.lt hk
   have h3 := g.step hk
   have := s.lt; have := s2.lt; have := s2.lo; have := s2.mid; have := s.mid
   refine h.bin b lv (binX (nowF l a) x z) a2 d y a' ⟨by omega, s2.len, s.lo, by show x.at' < z.en; omega, s2.hi, ?_⟩ e2
   exact ⟨Int.le_refl _, s.mid, s.lies, by omega, s2.mid, s2.lies, Int.le_refl _⟩
  ·cases e; exact s
 ·have e : nPost l f x a d = .ok y a' := e
  have h1 := s.end' g
  have hlt := s.lt
  have hmid := s.mid
  unfold nPost at e
  split at e
  ·rename_i hi
   split at e
   ·rename_i hk
    have k1 := g.kind (i := a) (by rw [isF_k hi]; decide)
    have k2 := g.kind (i := a + 1) (by rw [of_decide_eq_true hk]; decide)
    have := g.lt k1; have := g.step k1; have := g.lt k2
    refine h.post b (.mk 5 x.at' (nowF l (a + 1)).e (nowF l (a + 1)).t 0 zT [x]) _ d y a' ⟨by omega, k2, s.lo, by show x.at' < (nowF l (a + 1)).e; omega, by show (nowF l (a + 1)).e ≤ (nowF l (a + 1 + 1 - 1)).e; rw [Nat.add_sub_cancel]; exact Int.le_refl _, ⟨Int.le_refl _, s.mid, s.lies, by show x.en ≤ (nowF l (a + 1)).e; omega⟩⟩ e
   ·cases e
  ·split at e
   ·rename_i hi
    have k1 := g.kind (i := a) (by rw [isF_k hi]; decide)
    obtain ⟨r, a1, e1, e2⟩ := bind_ok e
    have s2 := h.list _ _ _ _ _ k1 e1
    have q1 := g.lt k1
    have q2 := g.sorted (i := a) (j := a1 - 1) (by have := s2.lt; omega) (by have := s2.len; omega)
    have q3 := g.lt (i := a1 - 1) (by have := s2.len; have := s2.lt; omega)
    have q4 := s2.en
    have := s2.lt
    refine h.post b (.mk 6 x.at' r.2 [] 0 zT (x :: r.1)) _ d y a' ⟨by omega, s2.len, s.lo, by show x.at' < r.2; omega, by show r.2 ≤ _; omega, ⟨Int.le_refl _, s.mid, s.lies, (s2.chain.down (by omega)).up (by omega)⟩⟩ e2
   ·split at e
    ·rename_i hi
     have k1 := g.kind (i := a) (by rw [isF_k hi]; decide)
     obtain ⟨z, a1, e1, e2⟩ := bind_ok e
     obtain ⟨w, a2, e3, e4⟩ := bind_ok e2
     have s2 := h.expr _ _ _ _ _ (within_okD e1)
     obtain ⟨p1, p2, p3⟩ := must_okD e3
     have k2 := g.kind (i := a1) (by rw [p3]; decide)
     have q1 := g.lt k1; have q2 := g.step k1; have q3 := g.lt k2
     have q4 := s2.end' g
     have := s2.lt; have := s2.lo; have := s2.mid
     subst p2
     refine h.post b (.mk 7 x.at' w [] 0 zT [x, z]) _ d y a' ⟨by omega, k2, s.lo, by show x.at' < w; omega, by show w ≤ (nowF l (a1 + 1 - 1)).e; rw [Nat.add_sub_cancel]; omega, ⟨Int.le_refl _, s.mid, s.lies, by omega, s2.mid, s2.lies, by show z.en ≤ w; omega⟩⟩ e4
    ·cases e; exact s
 ·have e : nElts l f acc a d = .ok es a' := e
  unfold nElts at e
  obtain ⟨x, a1, e1, e2⟩ := bind_ok e
  have s := h.expr _ _ _ _ _ e1
  have q := s.end' g
  have := s.lo; have := s.lt
  split at e2
  ·rename_i hi
   have k1 := g.kind (i := a1) (by rw [isF_k hi]; decide)
   have := g.lt k1; have := g.step k1
   have r := h.elts lo (acc ++ [x]) (a1 + 1) d es a' (hc.app (by omega) s.mid s.lies (by omega)) e2
   exact ⟨r.1, by omega, r.2.2⟩
  ·cases e2
   exact ⟨hc.app (by omega) s.mid s.lies q, s.lt, s.len⟩
theorem fns_lie (g : GoodT N l) : ∀ n, LieF l (fns l n)
 | 0 => ⟨fun _ _ _ _ _ e => (by cases e), fun _ _ _ _ e => (by cases e), fun _ _ _ _ e => (by cases e), fun _ _ _ _ _ _ e => (by cases e), fun _ _ _ _ _ _ _ _ e => (by cases e), fun _ _ _ _ _ _ _ e => (by cases e), fun _ _ _ _ _ _ _ e => (by cases e)⟩
 | n + 1 => lie_next g (fns_lie g n)
end
end Go.VM
end
section
/- Expressions of a text: where it is wrong. -/
set_option maxRecDepth 100000
set_option linter.unusedVariables false
set_option linter.unusedSimpArgs false
namespace Go.VM
open Go.RowKit
def ErrP {α : Type} (N : Nat) (r : R α) : Prop := ∀ a d p c, r = .er a d p c → 0 ≤ p ∧ p ≤ (N : Int) ∧ c ≠ 0
theorem ErrP.ok {α : Type} {N : Nat} {v : α} {a : Nat} : ErrP N (R.ok v a) := fun _ _ _ _ e => by cases e
theorem ErrP.out {α : Type} {N : Nat} : ErrP N (R.out (α := α)) := fun _ _ _ _ e => by cases e
theorem ErrP.bind {α β : Type} {N : Nat} {r : R α} {f : α → Nat → R β} (h : ErrP N r) (k : ∀ v a1, ErrP N (f v a1)) : ErrP N (r.bind f) := by
 intro a d p c e
 cases r with
 | ok v a1 => exact k v a1 a d p c e
 | er a1 d1 p1 c1 => cases e; exact h _ _ _ _ rfl
 | out => cases e
section
variable {N : Nat} {l : List Tz}
theorem ErrP.fail {α : Type} (g : GoodT N l) {a d : Nat} {c : Int} (hc : c ≠ 0) : ErrP N (failF (α := α) l a d c) := by
 intro a' d' p c' e
 cases e
 exact ⟨(g.range a).1, (g.range a).2, hc⟩
theorem ErrP.within {α : Type} (g : GoodT N l) {a d : Nat} {f : Nat → Nat → R α} (h : ErrP N (f (a + 1) (d + 1))) : ErrP N (withinF l a d f) := by
 unfold withinF
 split
 ·exact .fail g (by decide)
 ·exact h
theorem ErrP.must (g : GoodT N l) {a d : Nat} {s : List Nat} : ErrP N (mustF l a d s) := by
 unfold mustF
 split
 ·exact .ok
 ·exact .fail g (by decide)
theorem tyOpen_at : ∀ (m a : Nat) (ls : List Int) (p c : Int), tyOpen l m a ls = .er p c → ∃ i, p = (nowF l i).a
 | 0, a, ls, p, c, h => by
  simp only [tyOpen] at h
  split at h
  ·cases h
  ·cases h; exact ⟨_, rfl⟩
 | m + 1, a, ls, p, c, h => by
  simp only [tyOpen] at h
  split at h
  ·cases h
  ·split at h
   ·cases h; exact ⟨_, rfl⟩
   ·exact tyOpen_at m (a + 2) _ p c h
theorem tyBase_at {a a' d' : Nat} {p c : Int} (h : tyBase l a = .er a' d' p c) : ∃ i, p = (nowF l i).a := by
 unfold tyBase at h
 split at h
 ·cases h
 ·split at h
  ·split at h
   ·split at h
    ·cases h
    ·cases h; exact ⟨_, rfl⟩
   ·cases h
  ·cases h; exact ⟨_, rfl⟩
theorem tyF_at {a a' d' : Nat} {p c : Int} (h : tyF l a = .er a' d' p c) : ∃ i, p = (nowF l i).a := by
 unfold tyF at h
 split at h
 ·rename_i p' c' ho; cases h; exact tyOpen_at 30 a [] p c ho
 ·split at h
  ·cases h
  ·rename_i hb; cases h; exact tyBase_at hb
  ·cases h
structure ErrF (N : Nat) (f : Fns) : Prop where
 expr : ∀ lv a d, ErrP N (f.expr lv a d)
 oper : ∀ a d, ErrP N (f.oper a d)
 prim : ∀ a d, ErrP N (f.prim a d)
 list : ∀ to a d, ErrP N (f.list to a d)
 bin : ∀ lv x a d, ErrP N (f.bin lv x a d)
 post : ∀ x a d, ErrP N (f.post x a d)
 elts : ∀ acc a d, ErrP N (f.elts acc a d)
theorem err_next (g : GoodT N l) {f : Fns} (h : ErrF N f) : ErrF N ⟨nExpr f, nOper l f, nPrim l f, nList l f, nBin l f, nPost l f, nElts l f⟩ := by
 refine ⟨fun lv a d => ?_, fun a d => ?_, fun a d => ?_, fun to a d => ?_, fun lv x a d => ?_, fun x a d => ?_, fun acc a d => ?_⟩
 ·show ErrP N (nExpr f lv a d)
  unfold nExpr
  split
  ·exact h.oper _ _
  ·exact (h.expr _ _ _).bind fun _ _ => h.bin _ _ _ _
 ·show ErrP N (nOper l f a d)
  unfold nOper
  split
  ·exact (ErrP.within g (h.oper _ _)).bind fun _ _ => .ok
  ·exact (h.prim _ _).bind fun _ _ => h.post _ _ _
 ·show ErrP N (nPrim l f a d)
  unfold nPrim
  split
  ·refine ErrP.bind ?_ fun _ _ => .ok
   unfold numberF
   split
   ·exact .ok
   ·exact .fail g (by decide)
  ·split
   ·split
    ·exact .ok
    ·exact .fail g (by decide)
   ·split
    ·exact .ok
    ·split
     ·exact .ok
     ·split
      ·exact .ok
      ·split
       ·exact (ErrP.within g (h.expr _ _ _)).bind fun _ _ => (ErrP.must g).bind fun _ _ => .ok
       ·split
        ·unfold madeF
         split
         ·split
          ·exact (h.list _ _ _).bind fun _ _ => .ok
          ·exact .fail g (by decide)
         ·rename_i ht
          intro a' d' p c e
          cases e
          obtain ⟨i, hi⟩ := tyF_at ht
          subst hi
          exact ⟨(g.range i).1, (g.range i).2, (tyF_er ht).1⟩
         ·exact .out
        ·exact .fail g (by decide)
 ·show ErrP N (nList l f to a d)
  unfold nList
  refine (ErrP.within g ?_).bind fun _ _ => (ErrP.must g).bind fun _ _ => .ok
  unfold nElt0
  split
  ·exact .ok
  ·exact h.elts _ _ _
 ·show ErrP N (nBin l f lv x a d)
  unfold nBin
  split
  ·exact (h.expr _ _ _).bind fun _ _ => h.bin _ _ _ _
  ·exact .ok
 ·show ErrP N (nPost l f x a d)
  unfold nPost
  split
  ·split
   ·exact h.post _ _ _
   ·exact .fail g (by decide)
  ·split
   ·exact (h.list _ _ _).bind fun _ _ => h.post _ _ _
   ·split
    ·exact (ErrP.within g (h.expr _ _ _)).bind fun _ _ => (ErrP.must g).bind fun _ _ => h.post _ _ _
    ·exact .ok
 ·show ErrP N (nElts l f acc a d)
  unfold nElts
  refine (h.expr _ _ _).bind fun _ _ => ?_
  split
  ·exact h.elts _ _ _
  ·exact .ok
theorem fns_err (g : GoodT N l) : ∀ n, ErrF N (fns l n)
 | 0 => ⟨fun _ _ _ => .out, fun _ _ => .out, fun _ _ => .out, fun _ _ _ => .out, fun _ _ _ _ => .out, fun _ _ _ => .out, fun _ _ _ => .out⟩
 | n + 1 => err_next g (fns_err g n)
end
end Go.VM
end
section
/- Expressions of a text: the law's own search. -/
set_option maxRecDepth 100000
set_option linter.unusedVariables false
set_option linter.unusedSimpArgs false
namespace Go.VM
open Go.RowKit
theorem chain_len : ∀ {r : List Ex} {lo hi : Int}, chain lo r hi → (r.length : Int) ≤ hi - lo
 | [], lo, hi, h => by
  have h : lo ≤ hi := h
  simp; omega
 | x :: r, lo, hi, h => by
  have h1 := h.1; have h2 := h.2.1; have := chain_len h.2.2.2
  simp only [List.length_cons]; omega
theorem chain_ge : ∀ {r : List Ex} {lo hi : Int}, chain lo r hi → lo ≤ hi
 | [], lo, hi, h => h
 | x :: r, lo, hi, h => by have h1 := h.1; have h2 := h.2.1; have := chain_ge h.2.2.2; omega
end Go.VM
end
section
/- Expressions of a text: the law ExprxLies. -/
set_option maxRecDepth 100000
set_option linter.unusedVariables false
set_option linter.unusedSimpArgs false
namespace Go.VM
open Go.RowKit
theorem chain_mem : ∀ {r : List Ex} {lo hi : Int} {y : Ex}, chain lo r hi → y ∈ r → lies y ∧ lo ≤ y.at' ∧ y.en ≤ hi
 | [], lo, hi, y, _, hm => by cases hm
 | x :: r, lo, hi, y, h, hm => by
  obtain ⟨h1, h2, h3, h4⟩ := h
  cases hm with
  | head => exact ⟨h3, h1, chain_ge h4⟩
  | tail _ hm =>
   have := chain_mem h4 hm
   exact ⟨this.1, by omega, this.2.2⟩
theorem all_at (s : List Nat) (h8 : ∀ c ∈ s, c < 256) (hl : s.length < big) : SCall Go.Proofs.Tryd.prog [0] 12 [.str s] none ⟨1000, og tOl, []⟩ (.ret (allV s)) none ⟨1000, og tOl, []⟩ := by
 refine SCall.trim (all_core2 s h8 hl) rfl (Nat.le_refl _) (fun b hb => ?_) (fun b _ => rfl) (fun b _ => .inl rfl) ((allV_in (D := (· < 1000)) s).refLt)
 exact olB_none (N := 1000) rfl b hb
theorem parse_at (l : List Tz) (hl : l.length < 19999) (hT : ∀ t ∈ l, t.t.length < big) (a n : Nat) (ha : a ≤ l.length) (hn : ((fns l n).expr 1 a 0).isOut = false) (h : H) :
  SCall Go.Proofs.Tryd.prog [0] 13 [lsV l, .int .i64 a] none h (.ret (exV ((fns l n).expr 1 a 0))) none h :=
 SCall.more (SCall.pure0 rfl (parse_core l hl hT a n ha hn) (by exact ⟨lsV_in l, trivial, trivial⟩) (by exact exV_in _) h)
end Go.VM
end
section
/- Expressions of a text: the law ExprxLies, walked. -/
set_option maxRecDepth 100000
set_option linter.unusedVariables false
set_option linter.unusedSimpArgs false
namespace Go.VM
open Go.RowKit
theorem lexL_len (s : List Nat) : ∀ (m i : Nat) (l T : List Tk) (x : Nat), l.length ≤ 4000 → lexL s m i l = (T, x, 0) → T.length ≤ 4001 := by
 intro m
 induction m with
 | zero => intro i l T x hl h; simp only [lexL, Prod.mk.injEq] at h; rw [← h.1]; omega
 | succ m ih =>
  intro i l T x hl h
  simp only [lexL] at h
  split at h
  ·cases h; simp; omega
  ·simp only [tokW] at h
   split at h
   ·rename_i t ht
    rw [Prod.mk.injEq] at ht
    have h2 := ht.2
    split at h2
    ·cases h2
    ·exact ih _ _ _ _ (by simp; omega) h
   ·cases h
theorem toZ_text {N : Nat} {l : List Tz} (g : GoodT N l) (hN : N < big) : ∀ t ∈ l, t.t.length < big := by
 intro t ht
 obtain ⟨i, hi⟩ := List.mem_iff_getElem?.1 ht
 have hlt := (List.getElem?_eq_some_iff.1 hi).1
 rcases Nat.lt_or_ge (i + 1) l.length with h | h
 ·have := (g.tok i t hi h).2.2.2; omega
 ·have := g.last t (by rw [show l.length - 1 = i by omega]; exact hi)
  rw [this]; show 0 < big; decide
end Go.VM
end
section
/- Expressions of a text: the calls at the head of the laws. -/
set_option maxRecDepth 100000
set_option linter.unusedVariables false
set_option linter.unusedSimpArgs false
namespace Go.VM
open Go.RowKit
def s1 : List Nat := [97, 43, 98, 42, 99, 59]
def s2 : List Nat := [102, 40, 44, 41]
def Z1 : List Tz := [⟨1, 0, 1, [97]⟩, ⟨4, 1, 2, [43]⟩, ⟨1, 2, 3, [98]⟩, ⟨4, 3, 4, [42]⟩, ⟨1, 4, 5, [99]⟩, ⟨4, 5, 6, [59]⟩, ⟨0, 6, 6, []⟩]
def Z2 : List Tz := [⟨1, 0, 1, [102]⟩, ⟨4, 1, 2, [40]⟩, ⟨4, 2, 3, [44]⟩, ⟨4, 3, 4, [41]⟩, ⟨0, 4, 4, []⟩]
def X1 : Ex := .mk 9 0 5 [43] 0 zT [.mk 4 0 1 [97] 0 zT [], .mk 9 2 5 [42] 0 zT [.mk 4 2 3 [98] 0 zT [], .mk 4 4 5 [99] 0 zT []]]
theorem all1 : allV s1 = .tup [lsV Z1, .agg (dg 0 0)] := by kernel_rfl
theorem all2 : allV s2 = .tup [lsV Z2, .agg (dg 0 0)] := by kernel_rfl
theorem par1 : (fns Z1 40).expr 1 0 0 = .ok X1 5 := by kernel_rfl
theorem par2 : (fns Z2 40).expr 1 0 0 = .er 2 1 2 5 := by kernel_rfl
theorem awake_sp : SCall Go.Proofs.Tryd.prog [0] 11 [] none ⟨1000, og tOl, []⟩ (.ret (.bool true)) none ⟨1000, og tOl, []⟩ := by
 have a1 := all_at s1 (by decide) (by decide)
 have a2 := all_at s2 (by decide) (by decide)
 have p1 := parse_at Z1 (by decide) (by decide) 0 40 (Nat.zero_le _) (by rw [par1]; rfl)
 have p2 := parse_at Z2 (by decide) (by decide) 0 40 (Nat.zero_le _) (by rw [par2]; rfl)
 rw [all1] at a1
 rw [all2] at a2
 rw [par1] at p1
 rw [par2] at p2
 refine SCall.listed (fn := Go.Proofs.Tryd.f11) (by kernel_rfl) res11 (by kernel_rfl) (by kernel_rfl) (Nat.le_refl _) rfl ((by exact ⟨tabS_in, trivial⟩)) trivial ?_
 unfold rc11
 repeat (refine WR.seq ?_)
 refine WR.reg (WQ.runS [] 1000 _ _ _ _ rfl (WQ.nilS ?_))
 repeat (refine WR.seq ?_)
 refine WR.reg (WQ.callH rfl rfl rfl rfl rfl a1 .base rfl ?_)
 refine WQ.runS [] 1000 _ _ _ _ rfl (WQ.nilS ?_)
 repeat (refine WR.seq ?_)
 refine WR.reg (WQ.runS [] 1 _ _ _ _ rfl ?_)
 refine WQ.callH rfl rfl rfl rfl rfl (p1 _) .base rfl ?_
 refine WQ.runS [] 1000 _ _ _ _ rfl (WQ.nilS ?_)
 repeat (refine WR.seq ?_)
 refine WR.reg (WQ.callH rfl rfl rfl rfl rfl (SCall.relc a2 _) .base rfl ?_)
 refine WQ.runS [] 1000 _ _ _ _ rfl (WQ.nilS ?_)
 repeat (refine WR.seq ?_)
 refine WR.reg (WQ.runS [] 1 _ _ _ _ rfl ?_)
 refine WQ.callH rfl rfl rfl rfl rfl (p2 _) .base rfl ?_
 refine WQ.runS [] 1000 _ _ _ _ rfl (WQ.nilS ?_)
 repeat (refine WR.seq ?_)
 refine WR.reg (WQ.runS [] 1000 _ _ _ _ rfl (WQ.nilS ?_))
 repeat (refine WR.seq ?_)
 refine WR.condF rfl (WR.skip ?_)
 repeat (refine WR.seq ?_)
 refine WR.reg (WQ.runS [] 1000 _ _ _ _ rfl (WQ.nilS ?_))
 exact WR.ret ⟨rfl, rfl, ⟨_, rfl, VLe.refl _⟩, fun _ _ => rfl⟩
end Go.VM
end
