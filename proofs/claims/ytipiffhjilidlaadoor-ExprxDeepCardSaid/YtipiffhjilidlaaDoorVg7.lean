/- laid for this seat: RcXl VyA VyB VyC VyD VyE VyF VyG -/
import Derived.Test.YtipiffhjilidlaaDoorVmR
import Derived.Test.YtipiffhjilidlaaDoorProg
import Derived.ProofKit
import Derived.Test.YtipiffhjilidlaaDoorVg6
import Derived.Test.YtipiffhjilidlaaDoorVg2
section
set_option maxRecDepth 100000
namespace Go.VM
open Go.RowKit
def rc6_J1 : RC := .reg [.mv 9 32, .op (.bin .add (.t 32) (.c (.int .i64 1))) 33, .mv 33 9]
def rc6_L1 : RC := .seq (.seq (.reg [.mv 9 29, .mv 0 30, .op (.bin .lss (.t 29) (.t 30)) 31]) (.cond (.t 31) .skip (.exit 0))) (.seq (.block 1 (.seq (.reg [.mv 6 34, .op (.eq .str false (.t 34) (.c (.str [91]))) 35]) (.cond (.t 35) (.reg [.mv 6 36, .op (.bin .add (.c (.str [97])) (.t 36)) 37, .mv 8 38, .op (.bin .add (.t 37) (.t 38)) 39, .mv 7 40, .op (.bin .add (.t 39) (.t 40)) 41, .mv 41 8]) (.reg [.mv 6 42, .mv 8 43, .op (.bin .add (.t 42) (.t 43)) 44, .mv 7 45, .op (.bin .add (.t 44) (.t 45)) 46, .mv 46 8])))) rc6_J1)
def rc6_J2 : RC := .seq (.reg [.mv 8 48, .op (.call (.c (.fn (.func 12) [] [])) [.t 48]) 49, .mv 49 47, .op (.ext (.t 47) 0) 50, .op (.ext (.t 47) 1) 51, .op (.al [.int .i64 0, .int .i64 0]) 11, .mv 50 10, ⟨0, 0, some (.st (.t 11) (.t 51) 2), [], none, none⟩]) (.seq (.reg [.mv 10 53, .op (.call (.c (.fn (.func 13) [] [])) [.t 53, .c (.int .i64 0)]) 54, .mv 54 52, .op (.ext (.t 52) 0) 55, .op (.ext (.t 52) 1) 56, .op (.ext (.t 52) 2) 57, .op (.al [.int .i64 0, .int .i64 0, .int .i64 0, .str [], .int .i64 0, .int .i64 0, .int .i64 0, .str [], .str [], .lst [] (.ex 0), .lst [] (.ex 0)]) 12, .op (.al [.int .i64 0, .int .i64 0]) 14, ⟨0, 0, some (.st (.t 12) (.t 55) 11), [], none, none⟩, .mv 56 13, ⟨0, 0, some (.st (.t 14) (.t 57) 2), [], none, none⟩]) (.seq (.seq (.reg [.op (.fa (.t 11) 1) 58, .op (.ld (.t 58) none) 59, .op (.eq .int true (.t 59) (.c (.int .i64 0))) 60]) (.cond (.t 60) (.seq (.reg [.op (.mv (.c (.bool false))) 4]) .ret) .skip)) (.seq (.seq (.reg [.mv 0 61, .op (.bin .gtr (.t 61) (.c (.int .i64 30))) 62]) (.cond (.t 62) (.seq (.reg [.mv 5 63, .mv 63 64, ⟨0, 0, some (.fa (.t 14) 1), [], some 65, some (64, true)⟩, ⟨0, 0, some (.ld (.t 65) none), [], some 66, some (64, true)⟩, ⟨0, 0, some (.eq .int false (.t 66) (.c (.int .i64 6))), [], some 67, some (64, true)⟩, .op (.pick (.t 64) (.t 67) (.c (.bool false))) 68, .mv 68 69, ⟨0, 0, some (.mv (.t 13)), [], some 70, some (69, true)⟩, ⟨0, 0, some (.eq .int false (.t 70) (.c (.int .i64 0))), [], some 71, some (69, true)⟩, .op (.pick (.t 69) (.t 71) (.c (.bool false))) 72, .mv 72 4]) .ret) .skip)) (.seq (.reg [.mv 5 73, .mv 73 74, ⟨0, 0, some (.ld (.t 14) (some 2)), [], some 75, some (74, true)⟩, ⟨0, 0, some (.bld [.int .i64 0, .int .i64 0] [(0, 1), (1, 1)] []), [], some 76, some (74, true)⟩, ⟨0, 0, some (.eq (.st [(0, .int), (1, .int)]) false (.t 75) (.t 76)), [], some 77, some (74, true)⟩, .op (.pick (.t 74) (.t 77) (.c (.bool false))) 78, .mv 78 79, ⟨0, 0, some (.mv (.t 13)), [], some 80, some (79, true)⟩, ⟨0, 0, some (.mv (.t 10)), [], some 81, some (79, true)⟩, ⟨0, 0, some (.lenL (.t 81)), [], some 82, some (79, true)⟩, ⟨0, 0, some (.bin .sub (.t 82) (.c (.int .i64 1))), [], some 83, some (79, true)⟩, ⟨0, 0, some (.eq .int false (.t 80) (.t 83)), [], some 84, some (79, true)⟩, .op (.pick (.t 79) (.t 84) (.c (.bool false))) 85, .mv 85 4]) .ret))))
def rc6_J3 : RC := .seq (.reg [.op (.mv (.c (.str [97]))) 8]) (.seq (.seq (.reg [.op (.mv (.c (.int .i64 0))) 9]) (.block 0 (.loop rc6_L1))) rc6_J2)
def rc6_J4 : RC := .seq (.seq (.reg [.mv 1 26, .op (.bin .rem (.t 26) (.c (.int .i64 3))) 27, .op (.eq .int false (.t 27) (.c (.int .i64 1))) 28]) (.cond (.t 28) (.seq (.reg [.op (.mv (.c (.str [91]))) 6]) (.reg [.op (.mv (.c (.str [93]))) 7])) .skip)) rc6_J3
def rc6_J5 : RC := .seq (.reg [.mv 0 21, .op (.bin .rem (.t 21) (.c (.int .i64 70))) 22, .mv 22 0]) (.seq (.reg [.op (.mv (.c (.str [40]))) 6]) (.seq (.reg [.op (.mv (.c (.str [41]))) 7]) (.seq (.seq (.reg [.mv 1 23, .op (.bin .rem (.t 23) (.c (.int .i64 3))) 24, .op (.eq .int false (.t 24) (.c (.int .i64 0))) 25]) (.cond (.t 25) (.seq (.reg [.op (.mv (.c (.str [33]))) 6]) (.reg [.op (.mv (.c (.str []))) 7])) .skip)) rc6_J4)))
def rc6 : RC := .seq (.reg [.op (.mv (.c (.bool false))) 4]) (.seq (.reg [.op (.call (.c (.fn (.func 11) [] [])) []) 15, .mv 15 5]) (.seq (.seq (.reg [.mv 0 16, .op (.bin .lss (.t 16) (.c (.int .i64 0))) 17]) (.cond (.t 17) (.reg [.mv 0 18, .op (.bin .add (.t 18) (.c (.int .i64 1))) 19, .op (.un .neg (.t 19)) 20, .mv 20 0]) .skip)) rc6_J5))
theorem res6 : (Go.Proofs.Tryd.f6.body).bind (resC Go.Proofs.Tryd.prog) = some rc6 := by kernel_rfl
def rc11 : RC := .seq (.reg [.op (.mv (.c (.bool false))) 0]) (.seq (.reg [.op (.call (.c (.fn (.func 12) [] [])) [.c (.str [97, 43, 98, 42, 99, 59])]) 12, .mv 12 11, .op (.ext (.t 11) 0) 13, .op (.ext (.t 11) 1) 14, .op (.al [.int .i64 0, .int .i64 0]) 2, .mv 13 1, ⟨0, 0, some (.st (.t 2) (.t 14) 2), [], none, none⟩]) (.seq (.reg [.mv 1 16, .op (.call (.c (.fn (.func 13) [] [])) [.t 16, .c (.int .i64 0)]) 17, .mv 17 15, .op (.ext (.t 15) 0) 18, .op (.ext (.t 15) 1) 19, .op (.ext (.t 15) 2) 20, .op (.al [.int .i64 0, .int .i64 0, .int .i64 0, .str [], .int .i64 0, .int .i64 0, .int .i64 0, .str [], .str [], .lst [] (.ex 0), .lst [] (.ex 0)]) 3, .op (.al [.int .i64 0, .int .i64 0]) 5, ⟨0, 0, some (.st (.t 3) (.t 18) 11), [], none, none⟩, .mv 19 4, ⟨0, 0, some (.st (.t 5) (.t 20) 2), [], none, none⟩]) (.seq (.reg [.op (.call (.c (.fn (.func 12) [] [])) [.c (.str [102, 40, 44, 41])]) 22, .mv 22 21, .op (.ext (.t 21) 0) 23, .op (.ext (.t 21) 1) 24, .op (.al [.int .i64 0, .int .i64 0]) 7, .mv 23 6, ⟨0, 0, some (.st (.t 7) (.t 24) 2), [], none, none⟩]) (.seq (.reg [.mv 6 26, .op (.call (.c (.fn (.func 13) [] [])) [.t 26, .c (.int .i64 0)]) 27, .mv 27 25, .op (.ext (.t 25) 0) 28, .op (.ext (.t 25) 1) 29, .op (.ext (.t 25) 2) 30, .op (.al [.int .i64 0, .int .i64 0, .int .i64 0, .str [], .int .i64 0, .int .i64 0, .int .i64 0, .str [], .str [], .lst [] (.ex 0), .lst [] (.ex 0)]) 8, .op (.al [.int .i64 0, .int .i64 0]) 10, ⟨0, 0, some (.st (.t 8) (.t 28) 11), [], none, none⟩, .mv 29 9, ⟨0, 0, some (.st (.t 10) (.t 30) 2), [], none, none⟩]) (.seq (.seq (.reg [.op (.fa (.t 3) 10) 31, .op (.ld (.t 31) none) 32, .op (.lenL (.t 32)) 33, .op (.eq .int true (.t 33) (.c (.int .i64 2))) 34, .mv 34 35, ⟨0, 0, some (.fa (.t 3) 10), [], some 36, some (35, false)⟩, ⟨0, 0, some (.ld (.t 36) none), [], some 37, some (35, false)⟩, ⟨0, 0, some (.ia (.t 37) (.c (.int .i64 1)) 11), [], some 38, some (35, false)⟩, ⟨0, 0, some (.fa (.t 38) 10), [], some 39, some (35, false)⟩, ⟨0, 0, some (.ld (.t 39) none), [], some 40, some (35, false)⟩, ⟨0, 0, some (.lenL (.t 40)), [], some 41, some (35, false)⟩, ⟨0, 0, some (.eq .int true (.t 41) (.c (.int .i64 2))), [], some 42, some (35, false)⟩, .op (.pick (.t 35) (.c (.bool true)) (.t 42)) 43]) (.cond (.t 43) (.seq (.reg [.op (.mv (.c (.bool false))) 0]) .ret) .skip)) (.seq (.reg [.op (.fa (.t 3) 0) 44, .op (.ld (.t 44) none) 45, .op (.eq .int false (.t 45) (.c (.int .i64 9))) 46, .mv 46 47, ⟨0, 0, some (.fa (.t 3) 3), [], some 48, some (47, true)⟩, ⟨0, 0, some (.ld (.t 48) none), [], some 49, some (47, true)⟩, ⟨0, 0, some (.eq .str false (.t 49) (.c (.str [43]))), [], some 50, some (47, true)⟩, .op (.pick (.t 47) (.t 50) (.c (.bool false))) 51, .mv 51 52, ⟨0, 0, some (.fa (.t 3) 2), [], some 53, some (52, true)⟩, ⟨0, 0, some (.ld (.t 53) none), [], some 54, some (52, true)⟩, ⟨0, 0, some (.eq .int false (.t 54) (.c (.int .i64 5))), [], some 55, some (52, true)⟩, .op (.pick (.t 52) (.t 55) (.c (.bool false))) 56, .mv 56 57, ⟨0, 0, some (.fa (.t 3) 10), [], some 58, some (57, true)⟩, ⟨0, 0, some (.ld (.t 58) none), [], some 59, some (57, true)⟩, ⟨0, 0, some (.ia (.t 59) (.c (.int .i64 1)) 11), [], some 60, some (57, true)⟩, ⟨0, 0, some (.fa (.t 60) 3), [], some 61, some (57, true)⟩, ⟨0, 0, some (.ld (.t 61) none), [], some 62, some (57, true)⟩, ⟨0, 0, some (.eq .str false (.t 62) (.c (.str [42]))), [], some 63, some (57, true)⟩, .op (.pick (.t 57) (.t 63) (.c (.bool false))) 64, .mv 64 65, ⟨0, 0, some (.fa (.t 3) 10), [], some 66, some (65, true)⟩, ⟨0, 0, some (.ld (.t 66) none), [], some 67, some (65, true)⟩, ⟨0, 0, some (.ia (.t 67) (.c (.int .i64 1)) 11), [], some 68, some (65, true)⟩, ⟨0, 0, some (.fa (.t 68) 10), [], some 69, some (65, true)⟩, ⟨0, 0, some (.ld (.t 69) none), [], some 70, some (65, true)⟩, ⟨0, 0, some (.ia (.t 70) (.c (.int .i64 0)) 11), [], some 71, some (65, true)⟩, ⟨0, 0, some (.fa (.t 71) 3), [], some 72, some (65, true)⟩, ⟨0, 0, some (.ld (.t 72) none), [], some 73, some (65, true)⟩, ⟨0, 0, some (.eq .str false (.t 73) (.c (.str [98]))), [], some 74, some (65, true)⟩, .op (.pick (.t 65) (.t 74) (.c (.bool false))) 75, .mv 75 76, ⟨0, 0, some (.mv (.t 4)), [], some 77, some (76, true)⟩, ⟨0, 0, some (.eq .int false (.t 77) (.c (.int .i64 5))), [], some 78, some (76, true)⟩, .op (.pick (.t 76) (.t 78) (.c (.bool false))) 79, .mv 79 80, ⟨0, 0, some (.ld (.t 5) (some 2)), [], some 81, some (80, true)⟩, ⟨0, 0, some (.bld [.int .i64 0, .int .i64 0] [(0, 1), (1, 1)] []), [], some 82, some (80, true)⟩, ⟨0, 0, some (.eq (.st [(0, .int), (1, .int)]) false (.t 81) (.t 82)), [], some 83, some (80, true)⟩, .op (.pick (.t 80) (.t 83) (.c (.bool false))) 84, .mv 84 85, ⟨0, 0, some (.ld (.t 10) (some 2)), [], some 86, some (85, true)⟩, ⟨0, 0, some (.bld [.int .i64 0, .int .i64 0] [(0, 1), (1, 1)] [(0, .c (.int .i64 2)), (1, .c (.int .i64 5))]), [], some 87, some (85, true)⟩, ⟨0, 0, some (.eq (.st [(0, .int), (1, .int)]) false (.t 86) (.t 87)), [], some 88, some (85, true)⟩, .op (.pick (.t 85) (.t 88) (.c (.bool false))) 89, .mv 89 0]) .ret))))))
theorem res11 : (Go.Proofs.Tryd.f11.body).bind (resC Go.Proofs.Tryd.prog) = some rc11 := by kernel_rfl
end Go.VM
end
section
/- Expressions of a text: the tokens of a text lie one behind the other. -/
set_option maxRecDepth 100000
set_option linter.unusedVariables false
set_option linter.unusedSimpArgs false
namespace Go.VM
open Go.RowKit
def toZ (t : Tk) : Tz := ⟨t.kind, t.a, t.e, t.text⟩
theorem encTks_Z (l : List Tk) : l.map encTk = (l.map toZ).map encTz := by rw [List.map_map]; rfl
theorem tokF_a {s : List Nat} {i c : Nat} (h : (tokF s i c).2 = 0) : (tokF s i c).1.a = i ∧ (tokF s i c).1.kind ≤ 5 := by
 cases hL : letterB c with
 | true =>
  rw [tokF_letter hL]
  refine ⟨rfl, ?_⟩
  dsimp only
  split <;> decide
 | false =>
 cases hD : digitB c with
 | true => rw [tokF_digit hL hD]; exact ⟨rfl, by show 2 ≤ 5; decide⟩
 | false =>
 by_cases h34 : c = 34
 ·rw [tokF_quot hL hD h34] at h ⊢
  unfold quotF at h ⊢
  split at h
  ·cases h
  ·exact ⟨rfl, by show 3 ≤ 5; decide⟩
 cases hp : (pfxB (s.drop i) [61, 61] || pfxB (s.drop i) [38, 38]) with
 | true => rw [tokF_two hL hD h34 hp]; exact ⟨rfl, by show 4 ≤ 5; decide⟩
 | false => rw [tokF_one hL hD h34 hp]; exact ⟨rfl, by show 4 ≤ 5; decide⟩
def Tl (N : Nat) : Nat → List Tk → Prop
 | _, [] => False
 | i, [t] => t = ⟨0, N, N, []⟩ ∧ i ≤ N
 | i, t :: u :: r => i ≤ t.a ∧ t.a < t.e ∧ t.e ≤ N ∧ t.text.length ≤ N ∧ Tl N t.e (u :: r)
theorem Tl.cons {N i : Nat} {t : Tk} {r : List Tk} (h1 : i ≤ t.a) (h2 : t.a < t.e) (h3 : t.e ≤ N) (h4 : t.text.length ≤ N) (h : Tl N t.e r) : Tl N i (t :: r) := by
 cases r with
 | nil => exact h.elim
 | cons u r => exact ⟨h1, h2, h3, h4, h⟩
theorem Tl.le {N i j : Nat} {r : List Tk} (h : Tl N i r) (hj : j ≤ i) : Tl N j r := by
 match r, h with
 | [t], h => exact ⟨h.1, Nat.le_trans hj h.2⟩
 | t :: u :: r, h => exact ⟨Nat.le_trans hj h.1, h.2⟩
theorem lexL_tl (s : List Nat) : ∀ (m i : Nat) (l T : List Tk) (x : Nat), i ≤ s.length → s.length + 1 ≤ m + i → lexL s m i l = (T, x, 0) → ∃ r, T = l ++ r ∧ Tl s.length i r := by
 intro m
 induction m with
 | zero => intro i l T x h1 h2; omega
 | succ m ih =>
  intro i l T x h1 h2 h
  simp only [lexL] at h
  cases hc : s[i]? with
  | none =>
   rw [hc] at h
   cases h
   have : s.length ≤ i := List.getElem?_eq_none_iff.1 hc
   exact ⟨[endTk s], rfl, rfl, h1⟩
  | some c =>
   rw [hc] at h
   simp only [tokW] at h
   split at h
   ·rename_i t ht
    have h0 : (tokF s i c).1 = t := by rw [Prod.mk.injEq] at ht; exact ht.1
    have hz : (tokF s i c).2 = 0 := by
     rw [Prod.mk.injEq] at ht
     have h2 := ht.2
     split at h2
     ·cases h2
     ·exact h2
    have hp := tokF_pos hc hz
    have ha := tokF_a hz
    rw [h0] at hp ha
    obtain ⟨r, hr, htl⟩ := ih _ _ _ _ (skipF_le s _ _ hp.2.1) (by have := skipF_ge s (s.length + 1) t.e; omega) h
    refine ⟨{ t with text := (s.drop i).take (t.e - i) } :: r, by rw [hr]; simp, ?_⟩
    refine Tl.cons (by show i ≤ t.a; omega) (by show t.a < t.e; omega) hp.2.1 ?_ (htl.le (skipF_ge s _ _))
    show ((s.drop i).take (t.e - i)).length ≤ _
    rw [List.length_take, List.length_drop]
    omega
   ·rename_i h3; cases h
theorem lexR_tl {s : List Nat} {T : List Tk} {x : Nat} (h : lexR s = (T, x, 0)) : Tl s.length 0 T := by
 obtain ⟨r, hr, ht⟩ := lexL_tl s _ _ _ _ _ (skipF_le s _ _ (Nat.zero_le _)) (by omega) h
 rw [hr]
 exact ht.le (Nat.zero_le _)
structure GoodT (N : Nat) (l : List Tz) : Prop where
 pos : 1 ≤ l.length
 last : ∀ t, l[l.length - 1]? = some t → t = ⟨0, N, N, []⟩
 tok : ∀ i t, l[i]? = some t → i + 1 < l.length → 0 ≤ t.a ∧ t.a < t.e ∧ t.e ≤ (N : Int) ∧ t.t.length ≤ N
 next : ∀ i t u, l[i]? = some t → l[i + 1]? = some u → t.e ≤ u.a
theorem Tl.good {N : Nat} : ∀ {i : Nat} {r : List Tk}, Tl N i r → GoodT N (r.map toZ) ∧ ∀ t, (r.map toZ)[0]? = some t → (i : Int) ≤ t.a
 | i, [t], h => by
  obtain ⟨rfl, h2⟩ := h
  refine ⟨⟨Nat.le_refl _, fun t ht => by simpa [toZ] using ht.symm, fun j t ht hj => ?_, fun j t u ht hu => ?_⟩, fun t ht => ?_⟩
  ·simp at hj
  ·simp at hu
  ·simp [toZ] at ht
   subst ht
   show (i : Int) ≤ (N : Int)
   omega
 | i, t :: u :: r, h => by
  obtain ⟨h1, h2, h3, h4, h5⟩ := h
  obtain ⟨g, g0⟩ := Tl.good h5
  refine ⟨⟨by simp, fun x hx => ?_, fun j x hx hj => ?_, fun j x y hx hy => ?_⟩, fun x hx => ?_⟩
  ·refine g.last x ?_
   have e : ((t :: u :: r).map toZ).length - 1 = (((u :: r).map toZ).length - 1) + 1 := by simp
   rw [e, List.map_cons, List.getElem?_cons_succ] at hx
   exact hx
  ·cases j with
   | zero =>
    simp only [List.map_cons, List.getElem?_cons_zero, Option.some.injEq] at hx
    subst hx
    simp only [toZ]
    omega
   | succ j =>
    rw [List.map_cons, List.getElem?_cons_succ] at hx
    exact g.tok j x hx (by simp at hj ⊢; omega)
  ·cases j with
   | zero =>
    simp only [List.map_cons, List.getElem?_cons_zero, Option.some.injEq] at hx
    subst hx
    rw [List.map_cons, List.getElem?_cons_succ] at hy
    exact g0 y hy
   | succ j =>
    rw [List.map_cons, List.getElem?_cons_succ] at hx hy
    exact g.next j x y hx hy
  ·simp only [List.map_cons, List.getElem?_cons_zero, Option.some.injEq] at hx
   subst hx
   simp only [toZ]
   omega
theorem lexR_good {s : List Nat} {T : List Tk} {x : Nat} (h : lexR s = (T, x, 0)) : GoodT s.length (T.map toZ) := (lexR_tl h).good.1
end Go.VM
end
section
/- Expressions of a text: parts lie within, one behind the other. -/
set_option maxRecDepth 100000
set_option linter.unusedVariables false
set_option linter.unusedSimpArgs false
namespace Go.VM
open Go.RowKit
theorem now_of {l : List Tz} {i : Nat} (h : i < l.length) : l[i]? = some (nowF l i) := by
 rw [nowF, List.getElem?_eq_getElem h]
section
variable {N : Nat} {l : List Tz}
theorem GoodT.kind (g : GoodT N l) {i : Nat} (h : (nowF l i).k ≠ 0) : i + 1 < l.length := by
 have h1 := now_lt h
 rcases Nat.lt_or_ge (i + 1) l.length with q | q
 ·exact q
 ·have := g.last (nowF l i) (by rw [show l.length - 1 = i by omega]; exact now_of h1)
  rw [this] at h; exact absurd rfl h
theorem GoodT.lt (g : GoodT N l) {i : Nat} (h : i + 1 < l.length) : (nowF l i).a < (nowF l i).e := (g.tok i _ (now_of (by omega)) h).2.1
theorem GoodT.step (g : GoodT N l) {i : Nat} (h : i + 1 < l.length) : (nowF l i).e ≤ (nowF l (i + 1)).a := g.next i _ _ (now_of (by omega)) (now_of h)
theorem GoodT.sorted (g : GoodT N l) : ∀ {i j : Nat}, i < j → j < l.length → (nowF l i).e ≤ (nowF l j).a := by
 intro i j
 induction j with
 | zero => intro h; omega
 | succ j ih =>
  intro h1 h2
  have h3 := g.step (i := j) h2
  rcases Nat.lt_or_ge i j with q | q
  ·have := ih q (by omega)
   have := g.lt (i := j) h2
   omega
  ·have : i = j := by omega
   subst this; exact h3
theorem GoodT.mono (g : GoodT N l) {i j : Nat} (h : i ≤ j) (hj : j < l.length) : (nowF l i).a ≤ (nowF l j).a := by
 rcases Nat.eq_or_lt_of_le h with e | e
 ·rw [e]; omega
 ·have := g.sorted e hj
  have := g.lt (i := i) (by omega)
  omega
end
mutual
def lies : Ex → Prop
 | .mk _ a e _ _ _ args => chain a args e
def chain : Int → List Ex → Int → Prop
 | lo, [], hi => lo ≤ hi
 | lo, x :: r, hi => lo ≤ x.at' ∧ x.at' < x.en ∧ lies x ∧ chain x.en r hi
end
theorem chain.up : ∀ {r : List Ex} {lo hi hi' : Int}, chain lo r hi → hi ≤ hi' → chain lo r hi'
 | [], lo, hi, hi', h, k => by
  have h : lo ≤ hi := h
  show lo ≤ hi'; omega
 | x :: r, lo, hi, hi', h, k => ⟨h.1, h.2.1, h.2.2.1, chain.up h.2.2.2 k⟩
section
variable {N : Nat} {l : List Tz}
end
end Go.VM
end
section
/- Expressions of a text: where it is wrong. -/
set_option maxRecDepth 100000
set_option linter.unusedVariables false
set_option linter.unusedSimpArgs false
namespace Go.VM
open Go.RowKit
def ErrP {α : Type} (N : Nat) (r : R α) : Prop := ∀ a d p c, r = .er a d p c → 0 ≤ p ∧ p ≤ (N : Int) ∧ c ≠ 0
theorem ErrP.ok {α : Type} {N : Nat} {v : α} {a : Nat} : ErrP N (R.ok v a) := fun _ _ _ _ e => by cases e
section
variable {N : Nat} {l : List Tz}
end
end Go.VM
end
section
/- Expressions of a text: the law's own search. -/
set_option maxRecDepth 100000
set_option linter.unusedVariables false
set_option linter.unusedSimpArgs false
namespace Go.VM
open Go.RowKit
end Go.VM
end
section
/- Expressions of a text: the law ExprxLies. -/
set_option maxRecDepth 100000
set_option linter.unusedVariables false
set_option linter.unusedSimpArgs false
namespace Go.VM
open Go.RowKit
theorem all_at (s : List Nat) (h8 : ∀ c ∈ s, c < 256) (hl : s.length < big) : SCall Go.Proofs.Tryd.prog [0] 12 [.str s] none ⟨1000, og tOl, []⟩ (.ret (allV s)) none ⟨1000, og tOl, []⟩ := by
 refine SCall.trim (all_core2 s h8 hl) rfl (Nat.le_refl _) (fun b hb => ?_) (fun b _ => rfl) (fun b _ => .inl rfl) ((allV_in (D := (· < 1000)) s).refLt)
 exact olB_none (N := 1000) rfl b hb
theorem parse_at (l : List Tz) (hl : l.length < 19999) (hT : ∀ t ∈ l, t.t.length < big) (a n : Nat) (ha : a ≤ l.length) (hn : ((fns l n).expr 1 a 0).isOut = false) (h : H) :
  SCall Go.Proofs.Tryd.prog [0] 13 [lsV l, .int .i64 a] none h (.ret (exV ((fns l n).expr 1 a 0))) none h :=
 SCall.more (SCall.pure0 rfl (parse_core l hl hT a n ha hn) (by exact ⟨lsV_in l, trivial, trivial⟩) (by exact exV_in _) h)
end Go.VM
end
section
/- Expressions of a text: the law ExprxLies, walked. -/
set_option maxRecDepth 100000
set_option linter.unusedVariables false
set_option linter.unusedSimpArgs false
namespace Go.VM
open Go.RowKit
theorem lexL_len (s : List Nat) : ∀ (m i : Nat) (l T : List Tk) (x : Nat), l.length ≤ 4000 → lexL s m i l = (T, x, 0) → T.length ≤ 4001 := by
 intro m
 induction m with
 | zero => intro i l T x hl h; simp only [lexL, Prod.mk.injEq] at h; rw [← h.1]; omega
 | succ m ih =>
  intro i l T x hl h
  simp only [lexL] at h
  split at h
  ·cases h; simp; omega
  ·simp only [tokW] at h
   split at h
   ·rename_i t ht
    rw [Prod.mk.injEq] at ht
    have h2 := ht.2
    split at h2
    ·cases h2
    ·exact ih _ _ _ _ (by simp; omega) h
   ·cases h
theorem toZ_text {N : Nat} {l : List Tz} (g : GoodT N l) (hN : N < big) : ∀ t ∈ l, t.t.length < big := by
 intro t ht
 obtain ⟨i, hi⟩ := List.mem_iff_getElem?.1 ht
 have hlt := (List.getElem?_eq_some_iff.1 hi).1
 rcases Nat.lt_or_ge (i + 1) l.length with h | h
 ·have := (g.tok i t hi h).2.2.2; omega
 ·have := g.last t (by rw [show l.length - 1 = i by omega]; exact hi)
  rw [this]; show 0 < big; decide
end Go.VM
end
section
/- Expressions of a text: the calls at the head of the laws. -/
set_option maxRecDepth 100000
set_option linter.unusedVariables false
set_option linter.unusedSimpArgs false
namespace Go.VM
open Go.RowKit
def s1 : List Nat := [97, 43, 98, 42, 99, 59]
def s2 : List Nat := [102, 40, 44, 41]
def Z1 : List Tz := [⟨1, 0, 1, [97]⟩, ⟨4, 1, 2, [43]⟩, ⟨1, 2, 3, [98]⟩, ⟨4, 3, 4, [42]⟩, ⟨1, 4, 5, [99]⟩, ⟨4, 5, 6, [59]⟩, ⟨0, 6, 6, []⟩]
def Z2 : List Tz := [⟨1, 0, 1, [102]⟩, ⟨4, 1, 2, [40]⟩, ⟨4, 2, 3, [44]⟩, ⟨4, 3, 4, [41]⟩, ⟨0, 4, 4, []⟩]
def X1 : Ex := .mk 9 0 5 [43] 0 zT [.mk 4 0 1 [97] 0 zT [], .mk 9 2 5 [42] 0 zT [.mk 4 2 3 [98] 0 zT [], .mk 4 4 5 [99] 0 zT []]]
theorem all1 : allV s1 = .tup [lsV Z1, .agg (dg 0 0)] := by kernel_rfl
theorem all2 : allV s2 = .tup [lsV Z2, .agg (dg 0 0)] := by kernel_rfl
theorem par1 : (fns Z1 40).expr 1 0 0 = .ok X1 5 := by kernel_rfl
theorem par2 : (fns Z2 40).expr 1 0 0 = .er 2 1 2 5 := by kernel_rfl
theorem awake_sp : SCall Go.Proofs.Tryd.prog [0] 11 [] none ⟨1000, og tOl, []⟩ (.ret (.bool true)) none ⟨1000, og tOl, []⟩ := by
 have a1 := all_at s1 (by decide) (by decide)
 have a2 := all_at s2 (by decide) (by decide)
 have p1 := parse_at Z1 (by decide) (by decide) 0 40 (Nat.zero_le _) (by rw [par1]; rfl)
 have p2 := parse_at Z2 (by decide) (by decide) 0 40 (Nat.zero_le _) (by rw [par2]; rfl)
 rw [all1] at a1
 rw [all2] at a2
 rw [par1] at p1
 rw [par2] at p2
 refine SCall.listed (fn := Go.Proofs.Tryd.f11) (by kernel_rfl) res11 (by kernel_rfl) (by kernel_rfl) (Nat.le_refl _) rfl ((by exact ⟨tabS_in, trivial⟩)) trivial ?_
 unfold rc11
 repeat (refine WR.seq ?_)
 refine WR.reg (WQ.runS [] 1000 _ _ _ _ rfl (WQ.nilS ?_))
 repeat (refine WR.seq ?_)
 refine WR.reg (WQ.callH rfl rfl rfl rfl rfl a1 .base rfl ?_)
 refine WQ.runS [] 1000 _ _ _ _ rfl (WQ.nilS ?_)
 repeat (refine WR.seq ?_)
 refine WR.reg (WQ.runS [] 1 _ _ _ _ rfl ?_)
 refine WQ.callH rfl rfl rfl rfl rfl (p1 _) .base rfl ?_
 refine WQ.runS [] 1000 _ _ _ _ rfl (WQ.nilS ?_)
 repeat (refine WR.seq ?_)
 refine WR.reg (WQ.callH rfl rfl rfl rfl rfl (SCall.relc a2 _) .base rfl ?_)
 refine WQ.runS [] 1000 _ _ _ _ rfl (WQ.nilS ?_)
 repeat (refine WR.seq ?_)
 refine WR.reg (WQ.runS [] 1 _ _ _ _ rfl ?_)
 refine WQ.callH rfl rfl rfl rfl rfl (p2 _) .base rfl ?_
 refine WQ.runS [] 1000 _ _ _ _ rfl (WQ.nilS ?_)
 repeat (refine WR.seq ?_)
 refine WR.reg (WQ.runS [] 1000 _ _ _ _ rfl (WQ.nilS ?_))
 repeat (refine WR.seq ?_)
 refine WR.condF rfl (WR.skip ?_)
 repeat (refine WR.seq ?_)
 refine WR.reg (WQ.runS [] 1000 _ _ _ _ rfl (WQ.nilS ?_))
 exact WR.ret ⟨rfl, rfl, ⟨_, rfl, VLe.refl _⟩, fun _ _ => rfl⟩
end Go.VM
end
