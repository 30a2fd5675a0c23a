/- laid for this seat: VtRot -/
import Derived.Test.YtonlemmcdecibaaVtSwap
/- Blocks that change places. -/
set_option maxRecDepth 100000
set_option linter.unusedVariables false
set_option linter.unusedSimpArgs false
namespace Go.VM
open Go.RowKit
def rotL (m : Nat) : Nat → Nat → Nat → List Nat → Nat × List Nat
 | 0, i, _, xs => (i, xs)
 | f + 1, i, j, xs => if i = j then (i, xs) else if i > j then rotL m f (i - j) j (swG (m - i) m j 0 xs) else rotL m f i (j - i) (swG (m - i) (m + j - i) i 0 xs)
def rTm4 (m i j n : Nat) : TM := [(0, .v (.sl 1001 0 n (.op 1))), (2, .v (.int .i64 m)), (4, .v (.fn (.func 66) [] [.ptr 1000 0])), (10, .v (.int .i64 i)), (11, .v (.int .i64 j))]
theorem rot_loop {QN : S → Prop} {QX : X → S → Prop} (L : List EZ) (m n : Nat) (hn : n ≤ 4000) : ∀ (f i j : Nat) (xs : List Nat), i + j ≤ f → 0 < i → 0 < j → i ≤ m → m + j ≤ n → xs.length = n →
  (∀ tm i' xs', (i', xs') = rotL m f i j xs → 0 < i' → i' ≤ m → m + i' ≤ n → xs'.length = n → tg tm 0 = some (.v (.sl 1001 0 n (.op 1))) → tg tm 2 = some (.v (.int .i64 m)) → tg tm 4 = some (.v (.fn (.func 66) [] [.ptr 1000 0])) → tg tm 10 = some (.v (.int .i64 i')) → QX (.exit 0) (SL.toS ⟨tm, [], none, 1002, sol L xs', []⟩)) →
  WLr Go.Proofs.Try.prog [] ⟨Go.Proofs.Try.f84.ntmps, none, 84⟩ rc84_L1 (SL.toS ⟨rTm4 m i j n, [], none, 1002, sol L xs, []⟩) QN QX := by
 intro f
 induction f with
 | zero => intro i j xs h; omega
 | succ f ih =>
  intro i j xs hf hi hj him hmj hlen hx
  unfold rc84_L1
  refine WLr.of ?_
  refine WR.seq (WR.seq (WR.reg (WQ.runS [] 1000 _ _ _ _ rfl (WQ.nilS ?_))))
  by_cases hij : i = j
  ·have hr : rotL m (f + 1) i j xs = (i, xs) := by simp only [rotL, if_pos hij]
   rw [hr] at hx
   rw [show decide ((i : Int) = (j : Int)) = true from decide_eq_true (by omega)]
   repeat (first | refine WR.seq ?_ | refine WR.block ?_ | refine WR.scope ?_ | refine WR.skip ?_ | refine WR.exit ?_ | refine WR.condT rfl ?_ | refine WR.condF rfl ?_ | refine WR.reg (WQ.runS [] 1000 _ _ _ _ rfl ?_) | refine WQ.nilS ?_ | refine WR.dreg hmix (DW.runS [] 1000 _ _ _ _ _ _ rfl ?_))
   exact hx _ i xs rfl hi him (by omega) hlen rfl rfl rfl rfl
  ·rw [show decide ((i : Int) = (j : Int)) = false from decide_eq_false (by omega)]
   refine WR.condT rfl (WR.skip ?_)
   refine WR.block (WR.seq (WR.reg (WQ.runS [] 1000 _ _ _ _ rfl (WQ.nilS ?_))))
   by_cases hgt : i > j
   ·have hr : rotL m (f + 1) i j xs = rotL m f (i - j) j (swG (m - i) m j 0 xs) := by simp only [rotL, if_neg hij, if_pos hgt]
    rw [hr] at hx
    rw [show decide ((i : Int) > (j : Int)) = true from decide_eq_true (by omega)]
    refine WR.condT rfl (WR.seq (WR.reg (WQ.runS [] 7 _ _ _ _ rfl ?_)))
    rw [show IntKind.i64.wrap ((m : Int) - (i : Int)) = ((m - i : Nat) : Int) from by rw [wrap64 (by omega) (by omega)]; omega]
    refine WQ.callH rfl rfl rfl rfl rfl (swap_core L (m - i) m j n hn (by omega) (by omega) xs hlen) .base rfl (WQ.runS [] 1000 _ _ _ _ rfl (WQ.nilS ?_))
    repeat (first | refine WR.seq ?_ | refine WR.block ?_ | refine WR.scope ?_ | refine WR.skip ?_ | refine WR.exit ?_ | refine WR.condT rfl ?_ | refine WR.condF rfl ?_ | refine WR.reg (WQ.runS [] 1000 _ _ _ _ rfl ?_) | refine WQ.nilS ?_ | refine WR.dreg hmix (DW.runS [] 1000 _ _ _ _ _ _ rfl ?_))
    rw [show IntKind.i64.wrap ((i : Int) - (j : Int)) = ((i - j : Nat) : Int) from by rw [wrap64 (by omega) (by omega)]; omega]
    refine WIr.again (WLr.weak ?_ (ih (i - j) j (swG (m - i) m j 0 xs) (by omega) (by omega) hj (by omega) hmj (by rw [swG_len]; exact hlen) hx))
    refine SW.tellR ?_ ?_
    ·repeat (first | exact .nil | refine .cons rfl (.v (VLe.refl _)) ?_ | refine .cons rfl (.l _ _ rfl) ?_ | refine .cons rfl (.v (VLe.unk _ _)) ?_)
    ·repeat (first | exact .nil | refine .cons rfl (.inl rfl) ?_)
   ·have hr : rotL m (f + 1) i j xs = rotL m f i (j - i) (swG (m - i) (m + j - i) i 0 xs) := by simp only [rotL, if_neg hij, if_neg hgt]
    rw [hr] at hx
    rw [show decide ((i : Int) > (j : Int)) = false from decide_eq_false (by omega)]
    refine WR.condF rfl (WR.seq (WR.reg (WQ.runS [] 11 _ _ _ _ rfl ?_)))
    rw [show IntKind.i64.wrap ((m : Int) - (i : Int)) = ((m - i : Nat) : Int) from by rw [wrap64 (by omega) (by omega)]; omega, show IntKind.i64.wrap (IntKind.i64.wrap ((m : Int) + (j : Int)) - (i : Int)) = ((m + j - i : Nat) : Int) from by rw [wrap64 (n := (m : Int) + (j : Int)) (by omega) (by omega), wrap64 (by omega) (by omega)]; omega]
    refine WQ.callH rfl rfl rfl rfl rfl (swap_core L (m - i) (m + j - i) i n hn (by omega) (by omega) xs hlen) .base rfl (WQ.runS [] 1000 _ _ _ _ rfl (WQ.nilS ?_))
    repeat (first | refine WR.seq ?_ | refine WR.block ?_ | refine WR.scope ?_ | refine WR.skip ?_ | refine WR.exit ?_ | refine WR.condT rfl ?_ | refine WR.condF rfl ?_ | refine WR.reg (WQ.runS [] 1000 _ _ _ _ rfl ?_) | refine WQ.nilS ?_ | refine WR.dreg hmix (DW.runS [] 1000 _ _ _ _ _ _ rfl ?_))
    rw [show IntKind.i64.wrap ((j : Int) - (i : Int)) = ((j - i : Nat) : Int) from by rw [wrap64 (by omega) (by omega)]; omega]
    refine WIr.again (WLr.weak ?_ (ih i (j - i) (swG (m - i) (m + j - i) i 0 xs) (by omega) hi (by omega) him (by omega) (by rw [swG_len]; exact hlen) hx))
    refine SW.tellR ?_ ?_
    ·repeat (first | exact .nil | refine .cons rfl (.v (VLe.refl _)) ?_ | refine .cons rfl (.l _ _ rfl) ?_ | refine .cons rfl (.v (VLe.unk _ _)) ?_)
    ·repeat (first | exact .nil | refine .cons rfl (.inl rfl) ?_)
def rotF (a m b : Nat) (xs : List Nat) : List Nat := swG (m - (rotL m (b - a) (m - a) (b - m) xs).1) m (rotL m (b - a) (m - a) (b - m) xs).1 0 (rotL m (b - a) (m - a) (b - m) xs).2
theorem rot_core (L : List EZ) (a m b n : Nat) (hn : n ≤ 4000) (h1 : a < m) (h2 : m < b) (h3 : b ≤ n) (xs : List Nat) (hlen : xs.length = n) :
  SCall Go.Proofs.Try.prog [] 84 [.sl 1001 0 n (.op 1), .int .i64 a, .int .i64 m, .int .i64 b, .fn (.func 66) [] [.ptr 1000 0]] none ⟨1002, og (sol L xs), []⟩ (.ret (.tup [])) none ⟨1002, og (sol L (rotF a m b xs)), []⟩ := by
 refine SCall.listed (fn := Go.Proofs.Try.f84) (by kernel_rfl) res84 (by kernel_rfl) (by kernel_rfl) (Nat.le_refl _) rfl ((by exact ⟨⟨⟨encZs_in _, trivial⟩, trivial⟩, ints_in _, trivial⟩)) trivial ?_
 unfold rc84
 refine WR.seq (WR.reg (WQ.runS [] 1000 _ _ _ _ rfl (WQ.nilS ?_)))
 refine WR.seq (WR.reg (WQ.runS [] 1000 _ _ _ _ rfl (WQ.nilS ?_)))
 rw [show IntKind.i64.wrap ((m : Int) - (a : Int)) = ((m - a : Nat) : Int) from by rw [wrap64 (by omega) (by omega)]; omega, show IntKind.i64.wrap ((b : Int) - (m : Int)) = ((b - m : Nat) : Int) from by rw [wrap64 (by omega) (by omega)]; omega]
 refine WR.seq (WR.block (WR.loop (WLr.weak (s := SL.toS ⟨rTm4 m (m - a) (b - m) n, [], none, 1002, sol L xs, []⟩) ?_ (rot_loop L m n hn (b - a) (m - a) (b - m) xs (by omega) (by omega) (by omega) (by omega) (by omega) hlen (fun tm i' xs' hr hi him hmi hl' t0 t2 t4 t10 => ?_)))))
 ·refine SW.tellR ?_ ?_
  ·repeat (first | exact .nil | refine .cons rfl (.v (VLe.refl _)) ?_ | refine .cons rfl (.l _ _ rfl) ?_ | refine .cons rfl (.v (VLe.unk _ _)) ?_)
  ·repeat (first | exact .nil | refine .cons rfl (.inl rfl) ?_)
 refine WR.weak (s := SL.toS ⟨[(0, .v (.sl 1001 0 n (.op 1))), (2, .v (.int .i64 m)), (4, .v (.fn (.func 66) [] [.ptr 1000 0])), (10, .v (.int .i64 i'))], [], none, 1002, sol L xs', []⟩) (SW.tellR (.cons t0 (.v (VLe.refl _)) (.cons t2 (.v (VLe.refl _)) (.cons t4 (.v (VLe.refl _)) (.cons t10 (.v (VLe.refl _)) .nil)))) .nil) ?_
 have hF : rotF a m b xs = swG (m - i') m i' 0 xs' := by unfold rotF; rw [← hr]
 rw [hF]
 unfold rc84_J1
 refine WR.reg (WQ.runS [] 7 _ _ _ _ rfl ?_)
 rw [show IntKind.i64.wrap ((m : Int) - (i' : Int)) = ((m - i' : Nat) : Int) from by rw [wrap64 (by omega) (by omega)]; omega]
 refine WQ.callH rfl rfl rfl rfl rfl (swap_core L (m - i') m i' n hn (by omega) (by omega) xs' hl') .base rfl (WQ.runS [] 1000 _ _ _ _ rfl (WQ.nilS ?_))
 exact ⟨rfl, rfl, ⟨_, rfl, VLe.refl _⟩, fun b _ => rfl⟩
end Go.VM
