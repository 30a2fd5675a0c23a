/- laid for this seat: VdDisk3 VdDisk4 -/
import Derived.Test.YtonlemmcdecibaaVg01
import Derived.Test.YtonlemmcdecibaaVmG
section
/- The disk of the program and the document's: writing, and lists of writes. -/
set_option maxRecDepth 100000
set_option linter.unusedVariables false
set_option linter.unusedSimpArgs false
namespace Go.VM
open Go.RowKit
structure Fit (d : Dk) (n : Nat) : Prop where
 ws : d.ws.length ≤ 100000000
 fuse : d.fuse < 9223372036854775808
 a0 : d.a0.length + n ≤ lim
 a1 : d.a1.length + n ≤ lim
theorem encW_in (w : Wr) : Ins (· < glim) (encW w) := ⟨trivial, trivial, trivial, trivial⟩
theorem write_call {d : Dk} {k a : Int} {x : List Nat} (ft : Fit d x.length) {h : H} {b t : Nat} (hd' : HD h b t d) :
  SCall Go.Proofs.Try.prog [] 72 [.ptr b 0, .agg [.int .i64 k, .int .i64 a, .str x]] none h (.ret (.int .i64 (write d ⟨k, a, x⟩).2)) none (hd h b t (write d ⟨k, a, x⟩).1) :=
 disk_lift (write_core d k a x ft.ws ft.fuse ft.a0 ft.a1) ⟨encW_in ⟨k, a, x⟩, trivial⟩ trivial hd'
theorem hd_core (d : Dk) {lc : LM} : HD ⟨1002, og (dol d), lc⟩ 1000 1001 d := ⟨by decide, by decide, by decide, rfl, rfl⟩
theorem append_core (d : Dk) (a : Int) (x : List Nat) (ft : Fit d x.length) :
  SCall Go.Proofs.Try.prog [] 58 [.ptr 1000 0, .int .i64 a, .str x] none ⟨1002, og (dol d), []⟩ (.ret (.int .i64 (write d ⟨1, a, x⟩).2)) none ⟨1002, og (dol (write d ⟨1, a, x⟩).1), []⟩ := by
 refine SCall.listed (fn := Go.Proofs.Try.f58) (by kernel_rfl) res58 (by kernel_rfl) (by kernel_rfl) (Nat.le_refl _) rfl (dol_in _) trivial ?_
 unfold rc58
 repeat (first | refine WR.seq ?_ | refine WR.block ?_ | refine WR.scope ?_ | refine WR.skip ?_ | refine WR.exit ?_ | refine WR.condT rfl ?_ | refine WR.condF rfl ?_ | refine WR.reg (WQ.runS [] 1000 _ _ _ _ rfl ?_) | refine WQ.nilS ?_ | refine WR.dreg hmix (DW.runS [] 1000 _ _ _ _ _ _ rfl ?_))
 refine WQ.callH rfl rfl rfl rfl rfl (write_call ft (hd_core d)) (.put (.put .base rfl) rfl) rfl (WQ.runS [] 1000 _ _ _ _ rfl ?_)
 repeat (first | refine WR.seq ?_ | refine WR.block ?_ | refine WR.scope ?_ | refine WR.skip ?_ | refine WR.exit ?_ | refine WR.condT rfl ?_ | refine WR.condF rfl ?_ | refine WR.reg (WQ.runS [] 1000 _ _ _ _ rfl ?_) | refine WQ.nilS ?_ | refine WR.dreg hmix (DW.runS [] 1000 _ _ _ _ _ _ rfl ?_))
 refine WR.ret ⟨rfl, rfl, ⟨_, rfl, VLe.refl _⟩, fun b _ => rfl⟩
theorem clear_core (d : Dk) (a : Int) (ft : Fit d 0) :
  SCall Go.Proofs.Try.prog [] 49 [.ptr 1000 0, .int .i64 a] none ⟨1002, og (dol d), []⟩ (.ret (.int .i64 (write d ⟨2, a, []⟩).2)) none ⟨1002, og (dol (write d ⟨2, a, []⟩).1), []⟩ := by
 refine SCall.listed (fn := Go.Proofs.Try.f49) (by kernel_rfl) res49 (by kernel_rfl) (by kernel_rfl) (Nat.le_refl _) rfl (dol_in _) trivial ?_
 unfold rc49
 repeat (first | refine WR.seq ?_ | refine WR.block ?_ | refine WR.scope ?_ | refine WR.skip ?_ | refine WR.exit ?_ | refine WR.condT rfl ?_ | refine WR.condF rfl ?_ | refine WR.reg (WQ.runS [] 1000 _ _ _ _ rfl ?_) | refine WQ.nilS ?_ | refine WR.dreg hmix (DW.runS [] 1000 _ _ _ _ _ _ rfl ?_))
 refine WQ.callH rfl rfl rfl rfl rfl (write_call (x := []) ft (hd_core d)) (.put (.put .base rfl) rfl) rfl (WQ.runS [] 1000 _ _ _ _ rfl ?_)
 repeat (first | refine WR.seq ?_ | refine WR.block ?_ | refine WR.scope ?_ | refine WR.skip ?_ | refine WR.exit ?_ | refine WR.condT rfl ?_ | refine WR.condF rfl ?_ | refine WR.reg (WQ.runS [] 1000 _ _ _ _ rfl ?_) | refine WQ.nilS ?_ | refine WR.dreg hmix (DW.runS [] 1000 _ _ _ _ _ _ rfl ?_))
 refine WR.ret ⟨rfl, rfl, ⟨_, rfl, VLe.refl _⟩, fun b _ => rfl⟩
theorem root_core (d : Dk) (a : Int) (ft : Fit d 0) :
  SCall Go.Proofs.Try.prog [] 51 [.ptr 1000 0, .int .i64 a] none ⟨1002, og (dol d), []⟩ (.ret (.int .i64 (write d ⟨3, a, []⟩).2)) none ⟨1002, og (dol (write d ⟨3, a, []⟩).1), []⟩ := by
 refine SCall.listed (fn := Go.Proofs.Try.f51) (by kernel_rfl) res51 (by kernel_rfl) (by kernel_rfl) (Nat.le_refl _) rfl (dol_in _) trivial ?_
 unfold rc51
 repeat (first | refine WR.seq ?_ | refine WR.block ?_ | refine WR.scope ?_ | refine WR.skip ?_ | refine WR.exit ?_ | refine WR.condT rfl ?_ | refine WR.condF rfl ?_ | refine WR.reg (WQ.runS [] 1000 _ _ _ _ rfl ?_) | refine WQ.nilS ?_ | refine WR.dreg hmix (DW.runS [] 1000 _ _ _ _ _ _ rfl ?_))
 refine WQ.callH rfl rfl rfl rfl rfl (write_call (x := []) ft (hd_core d)) (.put (.put .base rfl) rfl) rfl (WQ.runS [] 1000 _ _ _ _ rfl ?_)
 repeat (first | refine WR.seq ?_ | refine WR.block ?_ | refine WR.scope ?_ | refine WR.skip ?_ | refine WR.exit ?_ | refine WR.condT rfl ?_ | refine WR.condF rfl ?_ | refine WR.reg (WQ.runS [] 1000 _ _ _ _ rfl ?_) | refine WQ.nilS ?_ | refine WR.dreg hmix (DW.runS [] 1000 _ _ _ _ _ _ rfl ?_))
 refine WR.ret ⟨rfl, rfl, ⟨_, rfl, VLe.refl _⟩, fun b _ => rfl⟩
end Go.VM
end
section
/- The disk of the program and the document's: new ones; whether two lists are the same; what writes make. -/
set_option maxRecDepth 100000
set_option linter.unusedVariables false
set_option linter.unusedSimpArgs false
namespace Go.VM
open Go.RowKit
def d0 : Dk := ⟨[], [], 0, false, -1, []⟩
def nd (h : H) (d : Dk) : H := (h.new (.cells false (encD d (h.nxt + 1)))).new (.tok d.ws.length)
def encN : List V := [.str [], .str [], .int .i64 0, .bool false, .int .i64 (-1), .lst [] (.ex 0)]
theorem new_tell {f : FuncId} {h : H} (core : SCall Go.Proofs.Try.prog [] f [] none h (.ret (.ptr h.nxt 0)) none (h.new (.cells false encN))) (hg : glim ≤ h.nxt) : SCall Go.Proofs.Try.prog [] f [] none h (.ret (.ptr h.nxt 0)) none (nd h d0) := by
 have c1 := core.heap (HW.tok _) rfl (fun _ _ => trivial) rfl ⟨_, rfl⟩
 have c2 := c1.cells (b := h.nxt) (o := 0) (op := false) (cs := encN) (cs' := encD d0 (h.nxt + 1)) (by
  show (if h.nxt = h.nxt + 1 then _ else if h.nxt = h.nxt then _ else _) = _
  rw [if_neg (by omega), if_pos rfl]) hg ⟨rfl, fun E i v x hi r => by
   match i, hi with
   | 0, hi => cases hi; exact ⟨_, rfl, rfl, r⟩
   | 1, hi => cases hi; exact ⟨_, rfl, rfl, r⟩
   | 2, hi => cases hi; exact ⟨_, rfl, rfl, r⟩
   | 3, hi => cases hi; exact ⟨_, rfl, rfl, r⟩
   | 4, hi => cases hi; exact ⟨_, rfl, rfl, r⟩
   | 5, hi => cases hi; exact ⟨_, rfl, rfl, VLe.tok0 _ E x r⟩
   | n + 6, hi => simp [encN] at hi⟩
 have e : ((h.new (.cells false encN)).new (.tok 0)).put h.nxt (.cells false (encD d0 (h.nxt + 1))) = nd h d0 := by
  unfold nd H.put H.new
  congr 1
  funext k
  simp only
  by_cases h1 : k = h.nxt
  ·rw [if_pos h1, if_neg (by omega), if_pos h1]
  ·rw [if_neg h1]; split
   ·rfl
   ·rfl
 rwa [e] at c2
theorem SCall.begun {P : Program} {f : FuncId} {args : List V} {u u' : Option AMode} {h h' : H} {r : AEnd} (hlc : h'.lc = h.lc) (hfn : ∃ fn, P.funcs[f]? = some fn ∧ fn.body.isSome = true ∧ (fn.name == "runtime.NumGoroutine") = false)
  (k : glim ≤ h.nxt → SCall P [] f args u h r u' h') : SCall P [] f args u h r u' h' :=
 SCall.known hlc hfn fun ⟨_, _, _, _, _, b⟩ => k b.mr.glo
theorem new_lift {f : FuncId} {h : H} (core : SCall Go.Proofs.Try.prog [] f [] none ⟨1000, og [], []⟩ (.ret (.ptr 1000 0)) none ⟨1001, og [(1000, .cells false encN)], []⟩) : SCall Go.Proofs.Try.prog [] f [] none h (.ret (.ptr h.nxt 0)) none (nd h d0) := by
 refine SCall.begun rfl core.fn fun hg => new_tell ?_ hg
 have r0 : ρL [] h.nxt 1000 = h.nxt := (ρL_new (bs := []) (i := 1000) (Nat.le_refl _)).trans (by simp [glim])
 refine SCall.frameL (n := 1) [] rfl core .nil (by simp) (fun i => ?_) rfl (fun i c o hi ho => by cases hi) trivial trivial (by show (1000 : Nat) < _; decide) (by exact ⟨⟨trivial, trivial, trivial, trivial, trivial, ⟨trivial, trivial⟩, trivial⟩, trivial⟩) rfl ?_ rfl rfl (fun i hi => ?_) (fun c hc => ?_)
 ·show (Option.isSome none = true) ↔ 1000 ≤ i ∧ i < 1000
  simp
 ·show V.ptr (ρL [] h.nxt 1000) 0 = _
  rw [r0]
 ·have hi : i = 0 := by have : i < 1 := hi; omega
  subst hi
  show (h.new _).ob (ρL [] h.nxt 1000) = _
  rw [r0]
  show (if h.nxt = h.nxt then _ else _) = _
  rw [if_pos rfl]; rfl
 ·have : ρL [] h.nxt 1000 ≠ c := hc 0 (by show 0 < 1; decide)
  rw [r0] at this
  show (if c = h.nxt then _ else _) = _
  rw [if_neg (fun e => this e.symm)]
theorem new_call (h : H) : SCall Go.Proofs.Try.prog [] 17 [] none h (.ret (.ptr h.nxt 0)) none (nd h d0) := by
 refine new_lift ?_
 refine SCall.listed (fn := Go.Proofs.Try.f17) (by kernel_rfl) res17 (by kernel_rfl) (by kernel_rfl) (Nat.le_succ _) rfl (⟨⟨trivial, trivial, trivial, trivial, trivial, ⟨trivial, trivial⟩, trivial⟩, trivial⟩) (by show (1000 : Nat) < 1001; decide) ?_
 unfold rc17
 refine WR.seq (WR.reg (WQ.runS [] 1000 _ _ _ _ rfl (WQ.nilS ?_)))
 refine WR.seq (WR.reg (WQ.runS [2] 1000 _ _ _ _ rfl (WQ.nilS ?_)))
 refine WR.ret ⟨rfl, rfl, ⟨_, rfl, VLe.refl _⟩, fun b _ => rfl⟩
end Go.VM
end
