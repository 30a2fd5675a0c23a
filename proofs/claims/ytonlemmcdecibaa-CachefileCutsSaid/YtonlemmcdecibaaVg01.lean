/- laid for this seat: VdDisk VdDisk2 -/
import Derived.Test.YtonlemmcdecibaaVg00
import Derived.Test.YtonlemmcdecibaaVmG
section
/- The disk of the program: what its functions do. -/
set_option maxRecDepth 100000
set_option linter.unusedVariables false
set_option linter.unusedSimpArgs false
namespace Go.VM
open Go.RowKit
structure Wr where
 kind : Int
 area : Int
 data : List Nat
def encW (w : Wr) : List V := [.int .i64 w.kind, .int .i64 w.area, .str w.data]
structure Dk where
 a0 : List Nat
 a1 : List Nat
 root : Int
 off : Bool
 fuse : Int
 ws : List Wr
def encD (d : Dk) (t : Nat) : List V := [.str d.a0, .str d.a1, .int .i64 d.root, .bool d.off, .int .i64 d.fuse, .lst (d.ws.map encW) (.tk t)]
theorem fits_spec (a : Int) (h : H) : SCall Go.Proofs.Try.prog [] 69 [.int .i64 a] none h (.ret (.bool (decide (a = 0) || decide (a = 1)))) none h := by
 refine SCall.pure0 rfl ?_ (by exact ⟨trivial, trivial⟩) (by exact trivial) h
 refine SCall.listed (fn := Go.Proofs.Try.f69) (by kernel_rfl) res69 (by kernel_rfl) (by kernel_rfl) (Nat.le_refl _) rfl trivial trivial ?_
 unfold rc69
 refine WR.seq (WR.reg (WQ.runS [] 100 _ _ _ _ rfl (WQ.nilS ?_)))
 refine WR.seq (WR.reg (WQ.runS [] 3 _ _ _ _ rfl ?_))
 refine WQ.guard 5 rfl (fun hb => ?_) (fun hb => ?_) <;> rw [hb]
 ·exact WQ.runS [] 100 _ _ _ _ rfl (WQ.nilS (WR.ret ⟨rfl, rfl, ⟨_, rfl, VLe.refl _⟩, fun b _ => rfl⟩))
 ·exact WQ.runS [] 100 _ _ _ _ rfl (WQ.nilS (WR.ret ⟨rfl, rfl, ⟨_, rfl, VLe.refl _⟩, fun b _ => rfl⟩))
def done (d : Dk) (w : Wr) : Dk × Int :=
 if w.kind = 1 then (if w.area = 0 then { d with a0 := d.a0 ++ w.data, ws := d.ws ++ [w] } else { d with a1 := d.a1 ++ w.data, ws := d.ws ++ [w] }, 0)
 else if w.kind = 2 then (if w.area = 0 then { d with a0 := [], ws := d.ws ++ [w] } else { d with a1 := [], ws := d.ws ++ [w] }, 0)
 else ({ d with root := w.area, ws := d.ws ++ [w] }, 0)
def write (d : Dk) (w : Wr) : Dk × Int :=
 if d.off then (d, 180)
 else if ¬ (w.area = 0 ∨ w.area = 1) then (d, 181)
 else if d.fuse = 0 then ({ d with off := true }, 180)
 else done (if 0 < d.fuse then { d with fuse := d.fuse - 1 } else d) w
def dol (d : Dk) : OL := [(1000, .cells false (encD d 1001)), (1001, .tok d.ws.length)]
theorem dol_in (d : Dk) : olIn (· < 1002) (dol d) :=
 ⟨⟨trivial, trivial, trivial, trivial, trivial, ⟨Inss_map fun w _ => ⟨trivial, trivial, trivial, trivial⟩, by decide, by decide⟩, trivial⟩, trivial, trivial⟩
theorem encD_ren (d : Dk) {ρ : Nat → Nat} : rens ρ (encD d 1001) = encD d (ρ 1001) := by
 simp only [encD, rens, V.ren, LC.ren]
 rw [renss_map fun w _ => rfl]
theorem write_core (d : Dk) (k a : Int) (x : List Nat) (hws : d.ws.length ≤ 100000000) (hf : d.fuse < 9223372036854775808) (hl0 : d.a0.length + x.length ≤ lim) (hl1 : d.a1.length + x.length ≤ lim) :
  SCall Go.Proofs.Try.prog [] 72 [.ptr 1000 0, .agg [.int .i64 k, .int .i64 a, .str x]] none ⟨1002, og (dol d), []⟩ (.ret (.int .i64 (write d ⟨k, a, x⟩).2)) none ⟨1002, og (dol (write d ⟨k, a, x⟩).1), []⟩ := by
 refine SCall.listed (fn := Go.Proofs.Try.f72) (by kernel_rfl) res72 (by kernel_rfl) (by kernel_rfl) (Nat.le_refl _) rfl (dol_in _) trivial ?_
 unfold rc72
 repeat (first | refine WR.seq ?_ | refine WR.block ?_ | refine WR.scope ?_ | refine WR.skip ?_ | refine WR.exit ?_ | refine WR.condT rfl ?_ | refine WR.condF rfl ?_ | refine WR.reg (WQ.runS [] 1000 _ _ _ _ rfl ?_) | refine WQ.nilS ?_ | refine WR.dreg hmix (DW.runS [] 1000 _ _ _ _ _ _ rfl ?_))
 refine WR.cond rfl (fun h1 => ?_) (fun h1 => ?_)
 ·have hw : write d ⟨k, a, x⟩ = (d, 180) := by simp [write, h1]
  rw [hw]
  repeat (first | refine WR.seq ?_ | refine WR.block ?_ | refine WR.scope ?_ | refine WR.skip ?_ | refine WR.exit ?_ | refine WR.condT rfl ?_ | refine WR.condF rfl ?_ | refine WR.reg (WQ.runS [] 1000 _ _ _ _ rfl ?_) | refine WQ.nilS ?_ | refine WR.dreg hmix (DW.runS [] 1000 _ _ _ _ _ _ rfl ?_))
  refine WR.ret ⟨rfl, rfl, ⟨_, rfl, VLe.refl _⟩, fun b _ => rfl⟩
 repeat (first | refine WR.seq ?_ | refine WR.block ?_ | refine WR.scope ?_ | refine WR.skip ?_ | refine WR.exit ?_ | refine WR.condT rfl ?_ | refine WR.condF rfl ?_ | refine WR.reg (WQ.runS [] 1000 _ _ _ _ rfl ?_) | refine WQ.nilS ?_ | refine WR.dreg hmix (DW.runS [] 1000 _ _ _ _ _ _ rfl ?_))
 refine WQ.callH rfl rfl rfl rfl rfl (fits_spec _ _) .base rfl (WQ.runS [] 1000 _ _ _ _ rfl ?_)
 repeat (first | refine WR.seq ?_ | refine WR.block ?_ | refine WR.scope ?_ | refine WR.skip ?_ | refine WR.exit ?_ | refine WR.condT rfl ?_ | refine WR.condF rfl ?_ | refine WR.reg (WQ.runS [] 1000 _ _ _ _ rfl ?_) | refine WQ.nilS ?_ | refine WR.dreg hmix (DW.runS [] 1000 _ _ _ _ _ _ rfl ?_))
 refine WR.cond rfl (fun h2 => ?_) (fun h2 => ?_)
 ·have hw : write d ⟨k, a, x⟩ = (d, 181) := by
   simp only [Bool.not_eq_true', Bool.or_eq_false_iff, decide_eq_false_iff_not] at h2
   simp [write, h1, h2]
  rw [hw]
  repeat (first | refine WR.seq ?_ | refine WR.block ?_ | refine WR.scope ?_ | refine WR.skip ?_ | refine WR.exit ?_ | refine WR.condT rfl ?_ | refine WR.condF rfl ?_ | refine WR.reg (WQ.runS [] 1000 _ _ _ _ rfl ?_) | refine WQ.nilS ?_ | refine WR.dreg hmix (DW.runS [] 1000 _ _ _ _ _ _ rfl ?_))
  refine WR.ret ⟨rfl, rfl, ⟨_, rfl, VLe.refl _⟩, fun b _ => rfl⟩
 have ha : a = 0 ∨ a = 1 := by
  simp only [Bool.not_eq_false', Bool.or_eq_true, decide_eq_true_eq] at h2; exact h2
 repeat (first | refine WR.seq ?_ | refine WR.block ?_ | refine WR.scope ?_ | refine WR.skip ?_ | refine WR.exit ?_ | refine WR.condT rfl ?_ | refine WR.condF rfl ?_ | refine WR.reg (WQ.runS [] 1000 _ _ _ _ rfl ?_) | refine WQ.nilS ?_ | refine WR.dreg hmix (DW.runS [] 1000 _ _ _ _ _ _ rfl ?_))
 refine WR.cond rfl (fun h3 => ?_) (fun h3 => ?_)
 ·have hw : write d ⟨k, a, x⟩ = ({ d with off := true }, 180) := by
   simp [write, h1, ha, of_decide_eq_true h3]
  rw [hw]
  repeat (first | refine WR.seq ?_ | refine WR.block ?_ | refine WR.scope ?_ | refine WR.skip ?_ | refine WR.exit ?_ | refine WR.condT rfl ?_ | refine WR.condF rfl ?_ | refine WR.reg (WQ.runS [] 1000 _ _ _ _ rfl ?_) | refine WQ.nilS ?_ | refine WR.dreg hmix (DW.runS [] 1000 _ _ _ _ _ _ rfl ?_))
  refine WR.ret ⟨rfl, rfl, ⟨_, rfl, VLe.refl _⟩, fun b _ => rfl⟩
 repeat (first | refine WR.seq ?_ | refine WR.block ?_ | refine WR.scope ?_ | refine WR.skip ?_ | refine WR.exit ?_ | refine WR.condT rfl ?_ | refine WR.condF rfl ?_ | refine WR.reg (WQ.runS [] 1000 _ _ _ _ rfl ?_) | refine WQ.nilS ?_ | refine WR.dreg hmix (DW.runS [] 1000 _ _ _ _ _ _ rfl ?_))
 refine WR.cond rfl (fun h4 => ?_) (fun h4 => ?_)
 ·have e4 : IntKind.i64.wrap (d.fuse - 1) = d.fuse - 1 := wrap64 (by omega) (by have := of_decide_eq_true h4; omega)
  have hw : write d ⟨k, a, x⟩ = done { d with fuse := d.fuse - 1 } ⟨k, a, x⟩ := by
   simp only [write, h1, ha, of_decide_eq_false h3, not_true, if_false, if_pos (of_decide_eq_true h4)]; rfl
  repeat (first | refine WR.seq ?_ | refine WR.block ?_ | refine WR.scope ?_ | refine WR.skip ?_ | refine WR.exit ?_ | refine WR.condT rfl ?_ | refine WR.condF rfl ?_ | refine WR.reg (WQ.runS [] 1000 _ _ _ _ rfl ?_) | refine WQ.nilS ?_ | refine WR.dreg hmix (DW.runS [] 1000 _ _ _ _ _ _ rfl ?_))
  rw [e4, hw]
  refine DW.doesS (by repeat (first | exact .nil | refine PendR.passM rfl ?_ | refine PendR.sameM rfl ?_ | refine PendR.lightM rfl ?_)) rfl (app_tkR (es2 := (d.ws ++ [(⟨k, a, x⟩ : Wr)]).map encW) (n2 := (d.ws ++ [(⟨k, a, x⟩ : Wr)]).length) rfl rfl rfl (List.length_map ..).symm ?_ ?_ ?_ rfl ?_ ?_ rfl) rfl (DW.runS [] 1000 _ _ _ _ _ _ rfl ?_)
  ·simp [encW]
  ·simp
  ·simp; unfold lim; omega
  ·simp [encW, V.clean1]
  ·simp
  refine DW.stS (by repeat (first | exact .nil | refine PendR.passM rfl ?_ | refine PendR.sameM rfl ?_ | refine PendR.lightM rfl ?_)) rfl rfl rfl rfl ?_
  refine DW.runS [] 1000 _ _ _ _ _ _ rfl (DW.finS (by repeat (first | exact .nil | refine PendR.passM rfl ?_ | refine PendR.sameM rfl ?_ | refine PendR.lightM rfl ?_)) ?_)
  repeat (first | refine WR.seq ?_ | refine WR.block ?_ | refine WR.scope ?_ | refine WR.skip ?_ | refine WR.exit ?_ | refine WR.condT rfl ?_ | refine WR.condF rfl ?_ | refine WR.reg (WQ.runS [] 1000 _ _ _ _ rfl ?_) | refine WQ.nilS ?_ | refine WR.dreg hmix (DW.runS [] 1000 _ _ _ _ _ _ rfl ?_))
  refine WR.cond rfl (fun h5 => ?_) (fun h5 => ?_)
  ·have h5 := of_decide_eq_true h5
   rcases ha with rfl | rfl
   ·rw [show done _ (⟨k, 0, x⟩ : Wr) = _ from by simp only [done, if_pos h5]; rfl]
    refine WR.dreg hmix (DW.runS [] 9 _ _ _ _ _ _ rfl (DW.pureS rfl (fun h => add_str rfl rfl hl0 h) rfl (DW.runS [] 1000 _ _ _ _ _ _ rfl ?_)))
    refine DW.stS (by repeat (first | exact .nil | refine PendR.passM rfl ?_ | refine PendR.sameM rfl ?_ | refine PendR.lightM rfl ?_)) rfl rfl rfl rfl ?_
    refine DW.runS [] 1000 _ _ _ _ _ _ rfl (DW.finS (by repeat (first | exact .nil | refine PendR.passM rfl ?_ | refine PendR.sameM rfl ?_ | refine PendR.lightM rfl ?_)) ?_)
    repeat (first | refine WR.seq ?_ | refine WR.block ?_ | refine WR.scope ?_ | refine WR.skip ?_ | refine WR.exit ?_ | refine WR.condT rfl ?_ | refine WR.condF rfl ?_ | refine WR.reg (WQ.runS [] 1000 _ _ _ _ rfl ?_) | refine WQ.nilS ?_ | refine WR.dreg hmix (DW.runS [] 1000 _ _ _ _ _ _ rfl ?_))
    refine WR.ret ⟨rfl, rfl, ⟨_, rfl, VLe.refl _⟩, fun b _ => rfl⟩
   ·rw [show done _ (⟨k, 1, x⟩ : Wr) = _ from by simp only [done, if_pos h5]; rfl]
    refine WR.dreg hmix (DW.runS [] 9 _ _ _ _ _ _ rfl (DW.pureS rfl (fun h => add_str rfl rfl hl1 h) rfl (DW.runS [] 1000 _ _ _ _ _ _ rfl ?_)))
    refine DW.stS (by repeat (first | exact .nil | refine PendR.passM rfl ?_ | refine PendR.sameM rfl ?_ | refine PendR.lightM rfl ?_)) rfl rfl rfl rfl ?_
    refine DW.runS [] 1000 _ _ _ _ _ _ rfl (DW.finS (by repeat (first | exact .nil | refine PendR.passM rfl ?_ | refine PendR.sameM rfl ?_ | refine PendR.lightM rfl ?_)) ?_)
    repeat (first | refine WR.seq ?_ | refine WR.block ?_ | refine WR.scope ?_ | refine WR.skip ?_ | refine WR.exit ?_ | refine WR.condT rfl ?_ | refine WR.condF rfl ?_ | refine WR.reg (WQ.runS [] 1000 _ _ _ _ rfl ?_) | refine WQ.nilS ?_ | refine WR.dreg hmix (DW.runS [] 1000 _ _ _ _ _ _ rfl ?_))
    refine WR.ret ⟨rfl, rfl, ⟨_, rfl, VLe.refl _⟩, fun b _ => rfl⟩
  ·have h5 := of_decide_eq_false h5
   repeat (first | refine WR.seq ?_ | refine WR.block ?_ | refine WR.scope ?_ | refine WR.skip ?_ | refine WR.exit ?_ | refine WR.condT rfl ?_ | refine WR.condF rfl ?_ | refine WR.reg (WQ.runS [] 1000 _ _ _ _ rfl ?_) | refine WQ.nilS ?_ | refine WR.dreg hmix (DW.runS [] 1000 _ _ _ _ _ _ rfl ?_))
   refine WR.cond rfl (fun h6 => ?_) (fun h6 => ?_)
   ·have h6 := of_decide_eq_true h6
    rcases ha with rfl | rfl
    ·rw [show done _ (⟨k, 0, x⟩ : Wr) = _ from by simp only [done, if_neg h5, if_pos h6]; rfl]
     repeat (first | refine WR.seq ?_ | refine WR.block ?_ | refine WR.scope ?_ | refine WR.skip ?_ | refine WR.exit ?_ | refine WR.condT rfl ?_ | refine WR.condF rfl ?_ | refine WR.reg (WQ.runS [] 1000 _ _ _ _ rfl ?_) | refine WQ.nilS ?_ | refine WR.dreg hmix (DW.runS [] 1000 _ _ _ _ _ _ rfl ?_))
     refine DW.stS (by repeat (first | exact .nil | refine PendR.passM rfl ?_ | refine PendR.sameM rfl ?_ | refine PendR.lightM rfl ?_)) rfl rfl rfl rfl ?_
     refine DW.runS [] 1000 _ _ _ _ _ _ rfl (DW.finS (by repeat (first | exact .nil | refine PendR.passM rfl ?_ | refine PendR.sameM rfl ?_ | refine PendR.lightM rfl ?_)) ?_)
     repeat (first | refine WR.seq ?_ | refine WR.block ?_ | refine WR.scope ?_ | refine WR.skip ?_ | refine WR.exit ?_ | refine WR.condT rfl ?_ | refine WR.condF rfl ?_ | refine WR.reg (WQ.runS [] 1000 _ _ _ _ rfl ?_) | refine WQ.nilS ?_ | refine WR.dreg hmix (DW.runS [] 1000 _ _ _ _ _ _ rfl ?_))
     refine WR.ret ⟨rfl, rfl, ⟨_, rfl, VLe.refl _⟩, fun b _ => rfl⟩
    ·rw [show done _ (⟨k, 1, x⟩ : Wr) = _ from by simp only [done, if_neg h5, if_pos h6]; rfl]
     repeat (first | refine WR.seq ?_ | refine WR.block ?_ | refine WR.scope ?_ | refine WR.skip ?_ | refine WR.exit ?_ | refine WR.condT rfl ?_ | refine WR.condF rfl ?_ | refine WR.reg (WQ.runS [] 1000 _ _ _ _ rfl ?_) | refine WQ.nilS ?_ | refine WR.dreg hmix (DW.runS [] 1000 _ _ _ _ _ _ rfl ?_))
     refine DW.stS (by repeat (first | exact .nil | refine PendR.passM rfl ?_ | refine PendR.sameM rfl ?_ | refine PendR.lightM rfl ?_)) rfl rfl rfl rfl ?_
     refine DW.runS [] 1000 _ _ _ _ _ _ rfl (DW.finS (by repeat (first | exact .nil | refine PendR.passM rfl ?_ | refine PendR.sameM rfl ?_ | refine PendR.lightM rfl ?_)) ?_)
     repeat (first | refine WR.seq ?_ | refine WR.block ?_ | refine WR.scope ?_ | refine WR.skip ?_ | refine WR.exit ?_ | refine WR.condT rfl ?_ | refine WR.condF rfl ?_ | refine WR.reg (WQ.runS [] 1000 _ _ _ _ rfl ?_) | refine WQ.nilS ?_ | refine WR.dreg hmix (DW.runS [] 1000 _ _ _ _ _ _ rfl ?_))
     refine WR.ret ⟨rfl, rfl, ⟨_, rfl, VLe.refl _⟩, fun b _ => rfl⟩
   ·have h6 := of_decide_eq_false h6
    rw [show done _ (⟨k, a, x⟩ : Wr) = _ from by simp only [done, if_neg h5, if_neg h6]; rfl]
    repeat (first | refine WR.seq ?_ | refine WR.block ?_ | refine WR.scope ?_ | refine WR.skip ?_ | refine WR.exit ?_ | refine WR.condT rfl ?_ | refine WR.condF rfl ?_ | refine WR.reg (WQ.runS [] 1000 _ _ _ _ rfl ?_) | refine WQ.nilS ?_ | refine WR.dreg hmix (DW.runS [] 1000 _ _ _ _ _ _ rfl ?_))
    refine WR.ret ⟨rfl, rfl, ⟨_, rfl, VLe.refl _⟩, fun b _ => rfl⟩
 ·have hw : write d ⟨k, a, x⟩ = done d ⟨k, a, x⟩ := by
   simp only [write, h1, ha, of_decide_eq_false h3, not_true, if_false, if_neg (of_decide_eq_false h4)]; rfl
  repeat (first | refine WR.seq ?_ | refine WR.block ?_ | refine WR.scope ?_ | refine WR.skip ?_ | refine WR.exit ?_ | refine WR.condT rfl ?_ | refine WR.condF rfl ?_ | refine WR.reg (WQ.runS [] 1000 _ _ _ _ rfl ?_) | refine WQ.nilS ?_ | refine WR.dreg hmix (DW.runS [] 1000 _ _ _ _ _ _ rfl ?_))
  rw [hw]
  refine DW.doesS (by repeat (first | exact .nil | refine PendR.passM rfl ?_ | refine PendR.sameM rfl ?_ | refine PendR.lightM rfl ?_)) rfl (app_tkR (es2 := (d.ws ++ [(⟨k, a, x⟩ : Wr)]).map encW) (n2 := (d.ws ++ [(⟨k, a, x⟩ : Wr)]).length) rfl rfl rfl (List.length_map ..).symm ?_ ?_ ?_ rfl ?_ ?_ rfl) rfl (DW.runS [] 1000 _ _ _ _ _ _ rfl ?_)
  ·simp [encW]
  ·simp
  ·simp; unfold lim; omega
  ·simp [encW, V.clean1]
  ·simp
  refine DW.stS (by repeat (first | exact .nil | refine PendR.passM rfl ?_ | refine PendR.sameM rfl ?_ | refine PendR.lightM rfl ?_)) rfl rfl rfl rfl ?_
  refine DW.runS [] 1000 _ _ _ _ _ _ rfl (DW.finS (by repeat (first | exact .nil | refine PendR.passM rfl ?_ | refine PendR.sameM rfl ?_ | refine PendR.lightM rfl ?_)) ?_)
  repeat (first | refine WR.seq ?_ | refine WR.block ?_ | refine WR.scope ?_ | refine WR.skip ?_ | refine WR.exit ?_ | refine WR.condT rfl ?_ | refine WR.condF rfl ?_ | refine WR.reg (WQ.runS [] 1000 _ _ _ _ rfl ?_) | refine WQ.nilS ?_ | refine WR.dreg hmix (DW.runS [] 1000 _ _ _ _ _ _ rfl ?_))
  refine WR.cond rfl (fun h5 => ?_) (fun h5 => ?_)
  ·have h5 := of_decide_eq_true h5
   rcases ha with rfl | rfl
   ·rw [show done _ (⟨k, 0, x⟩ : Wr) = _ from by simp only [done, if_pos h5]; rfl]
    refine WR.dreg hmix (DW.runS [] 9 _ _ _ _ _ _ rfl (DW.pureS rfl (fun h => add_str rfl rfl hl0 h) rfl (DW.runS [] 1000 _ _ _ _ _ _ rfl ?_)))
    refine DW.stS (by repeat (first | exact .nil | refine PendR.passM rfl ?_ | refine PendR.sameM rfl ?_ | refine PendR.lightM rfl ?_)) rfl rfl rfl rfl ?_
    refine DW.runS [] 1000 _ _ _ _ _ _ rfl (DW.finS (by repeat (first | exact .nil | refine PendR.passM rfl ?_ | refine PendR.sameM rfl ?_ | refine PendR.lightM rfl ?_)) ?_)
    repeat (first | refine WR.seq ?_ | refine WR.block ?_ | refine WR.scope ?_ | refine WR.skip ?_ | refine WR.exit ?_ | refine WR.condT rfl ?_ | refine WR.condF rfl ?_ | refine WR.reg (WQ.runS [] 1000 _ _ _ _ rfl ?_) | refine WQ.nilS ?_ | refine WR.dreg hmix (DW.runS [] 1000 _ _ _ _ _ _ rfl ?_))
    refine WR.ret ⟨rfl, rfl, ⟨_, rfl, VLe.refl _⟩, fun b _ => rfl⟩
   ·rw [show done _ (⟨k, 1, x⟩ : Wr) = _ from by simp only [done, if_pos h5]; rfl]
    refine WR.dreg hmix (DW.runS [] 9 _ _ _ _ _ _ rfl (DW.pureS rfl (fun h => add_str rfl rfl hl1 h) rfl (DW.runS [] 1000 _ _ _ _ _ _ rfl ?_)))
    refine DW.stS (by repeat (first | exact .nil | refine PendR.passM rfl ?_ | refine PendR.sameM rfl ?_ | refine PendR.lightM rfl ?_)) rfl rfl rfl rfl ?_
    refine DW.runS [] 1000 _ _ _ _ _ _ rfl (DW.finS (by repeat (first | exact .nil | refine PendR.passM rfl ?_ | refine PendR.sameM rfl ?_ | refine PendR.lightM rfl ?_)) ?_)
    repeat (first | refine WR.seq ?_ | refine WR.block ?_ | refine WR.scope ?_ | refine WR.skip ?_ | refine WR.exit ?_ | refine WR.condT rfl ?_ | refine WR.condF rfl ?_ | refine WR.reg (WQ.runS [] 1000 _ _ _ _ rfl ?_) | refine WQ.nilS ?_ | refine WR.dreg hmix (DW.runS [] 1000 _ _ _ _ _ _ rfl ?_))
    refine WR.ret ⟨rfl, rfl, ⟨_, rfl, VLe.refl _⟩, fun b _ => rfl⟩
  ·have h5 := of_decide_eq_false h5
   repeat (first | refine WR.seq ?_ | refine WR.block ?_ | refine WR.scope ?_ | refine WR.skip ?_ | refine WR.exit ?_ | refine WR.condT rfl ?_ | refine WR.condF rfl ?_ | refine WR.reg (WQ.runS [] 1000 _ _ _ _ rfl ?_) | refine WQ.nilS ?_ | refine WR.dreg hmix (DW.runS [] 1000 _ _ _ _ _ _ rfl ?_))
   refine WR.cond rfl (fun h6 => ?_) (fun h6 => ?_)
   ·have h6 := of_decide_eq_true h6
    rcases ha with rfl | rfl
    ·rw [show done _ (⟨k, 0, x⟩ : Wr) = _ from by simp only [done, if_neg h5, if_pos h6]; rfl]
     repeat (first | refine WR.seq ?_ | refine WR.block ?_ | refine WR.scope ?_ | refine WR.skip ?_ | refine WR.exit ?_ | refine WR.condT rfl ?_ | refine WR.condF rfl ?_ | refine WR.reg (WQ.runS [] 1000 _ _ _ _ rfl ?_) | refine WQ.nilS ?_ | refine WR.dreg hmix (DW.runS [] 1000 _ _ _ _ _ _ rfl ?_))
     refine DW.stS (by repeat (first | exact .nil | refine PendR.passM rfl ?_ | refine PendR.sameM rfl ?_ | refine PendR.lightM rfl ?_)) rfl rfl rfl rfl ?_
     refine DW.runS [] 1000 _ _ _ _ _ _ rfl (DW.finS (by repeat (first | exact .nil | refine PendR.passM rfl ?_ | refine PendR.sameM rfl ?_ | refine PendR.lightM rfl ?_)) ?_)
     repeat (first | refine WR.seq ?_ | refine WR.block ?_ | refine WR.scope ?_ | refine WR.skip ?_ | refine WR.exit ?_ | refine WR.condT rfl ?_ | refine WR.condF rfl ?_ | refine WR.reg (WQ.runS [] 1000 _ _ _ _ rfl ?_) | refine WQ.nilS ?_ | refine WR.dreg hmix (DW.runS [] 1000 _ _ _ _ _ _ rfl ?_))
     refine WR.ret ⟨rfl, rfl, ⟨_, rfl, VLe.refl _⟩, fun b _ => rfl⟩
    ·rw [show done _ (⟨k, 1, x⟩ : Wr) = _ from by simp only [done, if_neg h5, if_pos h6]; rfl]
     repeat (first | refine WR.seq ?_ | refine WR.block ?_ | refine WR.scope ?_ | refine WR.skip ?_ | refine WR.exit ?_ | refine WR.condT rfl ?_ | refine WR.condF rfl ?_ | refine WR.reg (WQ.runS [] 1000 _ _ _ _ rfl ?_) | refine WQ.nilS ?_ | refine WR.dreg hmix (DW.runS [] 1000 _ _ _ _ _ _ rfl ?_))
     refine DW.stS (by repeat (first | exact .nil | refine PendR.passM rfl ?_ | refine PendR.sameM rfl ?_ | refine PendR.lightM rfl ?_)) rfl rfl rfl rfl ?_
     refine DW.runS [] 1000 _ _ _ _ _ _ rfl (DW.finS (by repeat (first | exact .nil | refine PendR.passM rfl ?_ | refine PendR.sameM rfl ?_ | refine PendR.lightM rfl ?_)) ?_)
     repeat (first | refine WR.seq ?_ | refine WR.block ?_ | refine WR.scope ?_ | refine WR.skip ?_ | refine WR.exit ?_ | refine WR.condT rfl ?_ | refine WR.condF rfl ?_ | refine WR.reg (WQ.runS [] 1000 _ _ _ _ rfl ?_) | refine WQ.nilS ?_ | refine WR.dreg hmix (DW.runS [] 1000 _ _ _ _ _ _ rfl ?_))
     refine WR.ret ⟨rfl, rfl, ⟨_, rfl, VLe.refl _⟩, fun b _ => rfl⟩
   ·have h6 := of_decide_eq_false h6
    rw [show done _ (⟨k, a, x⟩ : Wr) = _ from by simp only [done, if_neg h5, if_neg h6]; rfl]
    repeat (first | refine WR.seq ?_ | refine WR.block ?_ | refine WR.scope ?_ | refine WR.skip ?_ | refine WR.exit ?_ | refine WR.condT rfl ?_ | refine WR.condF rfl ?_ | refine WR.reg (WQ.runS [] 1000 _ _ _ _ rfl ?_) | refine WQ.nilS ?_ | refine WR.dreg hmix (DW.runS [] 1000 _ _ _ _ _ _ rfl ?_))
    refine WR.ret ⟨rfl, rfl, ⟨_, rfl, VLe.refl _⟩, fun b _ => rfl⟩
end Go.VM
end
section
/- The disk of the program and the document's: what their functions do, over any memory. -/
set_option maxRecDepth 100000
set_option linter.unusedVariables false
set_option linter.unusedSimpArgs false
namespace Go.VM
open Go.RowKit
structure HD (h : H) (b t : Nat) (d : Dk) : Prop where
 hb : glim ≤ b
 ht : glim ≤ t
 hbt : b ≠ t
 ob : h.ob b = some (.cells false (encD d t))
 tk : h.ob t = some (.tok d.ws.length)
def hd (h : H) (b t : Nat) (d : Dk) : H := (h.put b (.cells false (encD d t))).put t (.tok d.ws.length)
theorem disk_lift {f : FuncId} {xs : List V} {v : V} {d d' : Dk} (core : SCall Go.Proofs.Try.prog [] f (.ptr 1000 0 :: xs) none ⟨1002, og (dol d), []⟩ (.ret v) none ⟨1002, og (dol d'), []⟩) (ha : Ins (· < glim) xs) (hv : v.In (· < glim)) {h : H} {b t : Nat} (k : HD h b t d) :
  SCall Go.Proofs.Try.prog [] f (.ptr b 0 :: xs) none h (.ret v) none (hd h b t d') := by
 refine SCall.frameL (n := 0) [b, t] rfl core (by simp [k.hbt]) (by simp [k.hb, k.ht]) (fun i => ?_) rfl (fun i c o hi ho => ?_) (dol_in d) ⟨(by show 1000 < glim + 2; decide), Ins.mono (fun i hi => Nat.lt_of_lt_of_le hi (Nat.le_add_right _ _)) ha⟩ (hv.mono fun i hi => Nat.lt_of_lt_of_le hi (Nat.le_add_right _ _)) (dol_in _) ?_ (V.ren_id (fun i hi => ρL_low hi) hv) rfl rfl (fun i hi => ?_) (fun c hc => ?_)
 ·simp only [dol, og_cons]
  show _ ↔ 1000 ≤ i ∧ i < 1002
  split
  ·simp; omega
  ·split
   ·simp; omega
   ·simp [og]; omega
 ·match i, hi with
  | 0, hi =>
   cases hi; cases ho
   simp only [Obj.ren, encD_ren]; exact k.ob
  | 1, hi =>
   cases hi; cases ho
   exact k.tk
 ·show _ :: rens _ xs = _
  rw [rens_low ha]; rfl
 ·have hi : i < 2 := hi
  match i, hi with
  | 0, _ =>
   show ((h.put b _).put t _).ob b = _
   simp only [H.put, k.hbt, if_false, if_true]
   show some _ = some (Obj.ren _ _)
   simp only [Obj.ren, encD_ren]; rfl
  | 1, _ =>
   show ((h.put b _).put t _).ob t = _
   simp only [H.put, if_true]
   rfl
 ·have h0 := hc 0 (by show 0 < 2; decide)
  have h1 := hc 1 (by show 1 < 2; decide)
  have h0 : b ≠ c := h0
  have h1 : t ≠ c := h1
  simp only [hd, H.put]
  rw [if_neg (fun e => h1 e.symm), if_neg (fun e => h0 e.symm)]
def fuseF (d : Dk) (n : Int) : Dk × Int := if d.off then (d, 180) else ({ d with fuse := if -1 > n then -1 else n }, 0)
def powerF (d : Dk) : Dk := { d with off := false, fuse := -1 }
def areaF (d : Dk) (n : Int) : List Nat × Int := if d.off then ([], 180) else if n = 0 then (d.a0, 0) else if n = 1 then (d.a1, 0) else ([], 181)
def nowF (d : Dk) : Int × Int := if d.off then (0, 180) else (d.root, 0)
theorem fuse_core (d : Dk) (n : Int) : SCall Go.Proofs.Try.prog [] 26 [.ptr 1000 0, .int .i64 n] none ⟨1002, og (dol d), []⟩ (.ret (.int .i64 (fuseF d n).2)) none ⟨1002, og (dol (fuseF d n).1), []⟩ := by
 refine SCall.listed (fn := Go.Proofs.Try.f26) (by kernel_rfl) res26 (by kernel_rfl) (by kernel_rfl) (Nat.le_refl _) rfl (dol_in _) trivial ?_
 unfold rc26
 repeat (first | refine WR.seq ?_ | refine WR.block ?_ | refine WR.scope ?_ | refine WR.skip ?_ | refine WR.exit ?_ | refine WR.condT rfl ?_ | refine WR.condF rfl ?_ | refine WR.reg (WQ.runS [] 1000 _ _ _ _ rfl ?_) | refine WQ.nilS ?_ | refine WR.dreg hmix (DW.runS [] 1000 _ _ _ _ _ _ rfl ?_))
 refine WR.cond rfl (fun h1 => ?_) (fun h1 => ?_)
 ·have hw : fuseF d n = (d, 180) := by simp [fuseF, h1]
  rw [hw]
  repeat (first | refine WR.seq ?_ | refine WR.block ?_ | refine WR.scope ?_ | refine WR.skip ?_ | refine WR.exit ?_ | refine WR.condT rfl ?_ | refine WR.condF rfl ?_ | refine WR.reg (WQ.runS [] 1000 _ _ _ _ rfl ?_) | refine WQ.nilS ?_ | refine WR.dreg hmix (DW.runS [] 1000 _ _ _ _ _ _ rfl ?_))
  refine WR.ret ⟨rfl, rfl, ⟨_, rfl, VLe.refl _⟩, fun b _ => rfl⟩
 ·have hw : fuseF d n = ({ d with fuse := if -1 > n then -1 else n }, 0) := by simp [fuseF, h1]
  rw [hw]
  repeat (first | refine WR.seq ?_ | refine WR.block ?_ | refine WR.scope ?_ | refine WR.skip ?_ | refine WR.exit ?_ | refine WR.condT rfl ?_ | refine WR.condF rfl ?_ | refine WR.reg (WQ.runS [] 1000 _ _ _ _ rfl ?_) | refine WQ.nilS ?_ | refine WR.dreg hmix (DW.runS [] 1000 _ _ _ _ _ _ rfl ?_))
  refine WR.ret ⟨rfl, rfl, ⟨_, rfl, VLe.refl _⟩, fun b _ => rfl⟩
theorem power_core (d : Dk) : SCall Go.Proofs.Try.prog [] 27 [.ptr 1000 0] none ⟨1002, og (dol d), []⟩ (.ret (.int .i64 0)) none ⟨1002, og (dol (powerF d)), []⟩ := by
 refine SCall.listed (fn := Go.Proofs.Try.f27) (by kernel_rfl) res27 (by kernel_rfl) (by kernel_rfl) (Nat.le_refl _) rfl (dol_in _) trivial ?_
 unfold rc27
 repeat (first | refine WR.seq ?_ | refine WR.block ?_ | refine WR.scope ?_ | refine WR.skip ?_ | refine WR.exit ?_ | refine WR.condT rfl ?_ | refine WR.condF rfl ?_ | refine WR.reg (WQ.runS [] 1000 _ _ _ _ rfl ?_) | refine WQ.nilS ?_ | refine WR.dreg hmix (DW.runS [] 1000 _ _ _ _ _ _ rfl ?_))
 refine WR.ret ⟨rfl, rfl, ⟨_, rfl, VLe.refl _⟩, fun b _ => rfl⟩
theorem now_core (d : Dk) : SCall Go.Proofs.Try.prog [] 42 [.ptr 1000 0] none ⟨1002, og (dol d), []⟩ (.ret (.tup [.int .i64 (nowF d).1, .int .i64 (nowF d).2])) none ⟨1002, og (dol d), []⟩ := by
 refine SCall.listed (fn := Go.Proofs.Try.f42) (by kernel_rfl) res42 (by kernel_rfl) (by kernel_rfl) (Nat.le_refl _) rfl (dol_in _) ⟨trivial, trivial, trivial⟩ ?_
 unfold rc42
 repeat (first | refine WR.seq ?_ | refine WR.block ?_ | refine WR.scope ?_ | refine WR.skip ?_ | refine WR.exit ?_ | refine WR.condT rfl ?_ | refine WR.condF rfl ?_ | refine WR.reg (WQ.runS [] 1000 _ _ _ _ rfl ?_) | refine WQ.nilS ?_ | refine WR.dreg hmix (DW.runS [] 1000 _ _ _ _ _ _ rfl ?_))
 refine WR.cond rfl (fun h1 => ?_) (fun h1 => ?_)
 ·have hw : nowF d = (0, 180) := by simp [nowF, h1]
  rw [hw]
  repeat (first | refine WR.seq ?_ | refine WR.block ?_ | refine WR.scope ?_ | refine WR.skip ?_ | refine WR.exit ?_ | refine WR.condT rfl ?_ | refine WR.condF rfl ?_ | refine WR.reg (WQ.runS [] 1000 _ _ _ _ rfl ?_) | refine WQ.nilS ?_ | refine WR.dreg hmix (DW.runS [] 1000 _ _ _ _ _ _ rfl ?_))
  refine WR.ret ⟨rfl, rfl, ⟨_, rfl, VLe.refl _⟩, fun b _ => rfl⟩
 ·have hw : nowF d = (d.root, 0) := by simp [nowF, h1]
  rw [hw]
  repeat (first | refine WR.seq ?_ | refine WR.block ?_ | refine WR.scope ?_ | refine WR.skip ?_ | refine WR.exit ?_ | refine WR.condT rfl ?_ | refine WR.condF rfl ?_ | refine WR.reg (WQ.runS [] 1000 _ _ _ _ rfl ?_) | refine WQ.nilS ?_ | refine WR.dreg hmix (DW.runS [] 1000 _ _ _ _ _ _ rfl ?_))
  refine WR.ret ⟨rfl, rfl, ⟨_, rfl, VLe.refl _⟩, fun b _ => rfl⟩
theorem area_core (d : Dk) (n : Int) : SCall Go.Proofs.Try.prog [] 43 [.ptr 1000 0, .int .i64 n] none ⟨1002, og (dol d), []⟩ (.ret (.tup [.str (areaF d n).1, .int .i64 (areaF d n).2])) none ⟨1002, og (dol d), []⟩ := by
 refine SCall.listed (fn := Go.Proofs.Try.f43) (by kernel_rfl) res43 (by kernel_rfl) (by kernel_rfl) (Nat.le_refl _) rfl (dol_in _) ⟨trivial, trivial, trivial⟩ ?_
 unfold rc43
 repeat (first | refine WR.seq ?_ | refine WR.block ?_ | refine WR.scope ?_ | refine WR.skip ?_ | refine WR.exit ?_ | refine WR.condT rfl ?_ | refine WR.condF rfl ?_ | refine WR.reg (WQ.runS [] 1000 _ _ _ _ rfl ?_) | refine WQ.nilS ?_ | refine WR.dreg hmix (DW.runS [] 1000 _ _ _ _ _ _ rfl ?_))
 refine WR.cond rfl (fun h1 => ?_) (fun h1 => ?_)
 ·have hw : areaF d n = ([], 180) := by simp [areaF, h1]
  rw [hw]
  repeat (first | refine WR.seq ?_ | refine WR.block ?_ | refine WR.scope ?_ | refine WR.skip ?_ | refine WR.exit ?_ | refine WR.condT rfl ?_ | refine WR.condF rfl ?_ | refine WR.reg (WQ.runS [] 1000 _ _ _ _ rfl ?_) | refine WQ.nilS ?_ | refine WR.dreg hmix (DW.runS [] 1000 _ _ _ _ _ _ rfl ?_))
  refine WR.ret ⟨rfl, rfl, ⟨_, rfl, VLe.refl _⟩, fun b _ => rfl⟩
 repeat (first | refine WR.seq ?_ | refine WR.block ?_ | refine WR.scope ?_ | refine WR.skip ?_ | refine WR.exit ?_ | refine WR.condT rfl ?_ | refine WR.condF rfl ?_ | refine WR.reg (WQ.runS [] 1000 _ _ _ _ rfl ?_) | refine WQ.nilS ?_ | refine WR.dreg hmix (DW.runS [] 1000 _ _ _ _ _ _ rfl ?_))
 refine WQ.callH rfl rfl rfl rfl rfl (fits_spec _ _) .base rfl (WQ.runS [] 1000 _ _ _ _ rfl ?_)
 repeat (first | refine WR.seq ?_ | refine WR.block ?_ | refine WR.scope ?_ | refine WR.skip ?_ | refine WR.exit ?_ | refine WR.condT rfl ?_ | refine WR.condF rfl ?_ | refine WR.reg (WQ.runS [] 1000 _ _ _ _ rfl ?_) | refine WQ.nilS ?_ | refine WR.dreg hmix (DW.runS [] 1000 _ _ _ _ _ _ rfl ?_))
 refine WR.cond rfl (fun h2 => ?_) (fun h2 => ?_)
 ·have hw : areaF d n = ([], 181) := by
   simp only [Bool.not_eq_true', Bool.or_eq_false_iff, decide_eq_false_iff_not] at h2
   simp [areaF, h1, h2]
  rw [hw]
  repeat (first | refine WR.seq ?_ | refine WR.block ?_ | refine WR.scope ?_ | refine WR.skip ?_ | refine WR.exit ?_ | refine WR.condT rfl ?_ | refine WR.condF rfl ?_ | refine WR.reg (WQ.runS [] 1000 _ _ _ _ rfl ?_) | refine WQ.nilS ?_ | refine WR.dreg hmix (DW.runS [] 1000 _ _ _ _ _ _ rfl ?_))
  refine WR.ret ⟨rfl, rfl, ⟨_, rfl, VLe.refl _⟩, fun b _ => rfl⟩
 ·simp only [Bool.not_eq_false', Bool.or_eq_true, decide_eq_true_eq] at h2
  rcases h2 with rfl | rfl
  ·have hw : areaF d 0 = (d.a0, 0) := by simp [areaF, h1]
   rw [hw]
   repeat (first | refine WR.seq ?_ | refine WR.block ?_ | refine WR.scope ?_ | refine WR.skip ?_ | refine WR.exit ?_ | refine WR.condT rfl ?_ | refine WR.condF rfl ?_ | refine WR.reg (WQ.runS [] 1000 _ _ _ _ rfl ?_) | refine WQ.nilS ?_ | refine WR.dreg hmix (DW.runS [] 1000 _ _ _ _ _ _ rfl ?_))
   refine WR.ret ⟨rfl, rfl, ⟨_, rfl, VLe.refl _⟩, fun b _ => rfl⟩
  ·have hw : areaF d 1 = (d.a1, 0) := by simp [areaF, h1]
   rw [hw]
   repeat (first | refine WR.seq ?_ | refine WR.block ?_ | refine WR.scope ?_ | refine WR.skip ?_ | refine WR.exit ?_ | refine WR.condT rfl ?_ | refine WR.condF rfl ?_ | refine WR.reg (WQ.runS [] 1000 _ _ _ _ rfl ?_) | refine WQ.nilS ?_ | refine WR.dreg hmix (DW.runS [] 1000 _ _ _ _ _ _ rfl ?_))
   refine WR.ret ⟨rfl, rfl, ⟨_, rfl, VLe.refl _⟩, fun b _ => rfl⟩
end Go.VM
end
