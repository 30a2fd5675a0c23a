/- The disk of the program and the document's: what their functions do, over any memory. -/
import Derived.Test.YtdmpeinbbcjamaaVtDisk
set_option maxRecDepth 100000
set_option linter.unusedVariables false
set_option linter.unusedSimpArgs false
namespace Go.VM
open Go.RowKit

structure HD (h : H) (b t : Nat) (d : Dk) : Prop where
  hb : glim ≤ b
  ht : glim ≤ t
  hbt : b ≠ t
  ob : h.ob b = some (.cells false (encD d t))
  tk : h.ob t = some (.tok d.ws.length)

def hd (h : H) (b t : Nat) (d : Dk) : H := (h.put b (.cells false (encD d t))).put t (.tok d.ws.length)

theorem hd_same {h : H} {b t : Nat} {d : Dk} (k : HD h b t d) : hd h b t d = h := by
  unfold hd H.put
  have : (fun j => if j = t then some (Obj.tok d.ws.length) else if j = b then some (Obj.cells false (encD d t)) else h.ob j) = h.ob := by
    funext j
    split
    · rename_i e; subst e; exact k.tk.symm
    · split
      · rename_i e; subst e; exact k.ob.symm
      · rfl
  simp only [this]

theorem rens_low {bs : List Nat} {nx : Nat} {l : List V} (h : Ins (· < glim) l) : rens (ρL bs nx) l = l := rens_id (fun i hi => ρL_low hi) h

theorem disk_lift {f : FuncId} {xs : List V} {v : V} {d d' : Dk} (core : SCall Go.Proofs.Try.prog [] f (.ptr 1000 0 :: xs) none ⟨1002, og (dol d), []⟩ (.ret v) none ⟨1002, og (dol d'), []⟩) (ha : Ins (· < glim) xs) (hv : v.In (· < glim)) {h : H} {b t : Nat} (k : HD h b t d) :
    SCall Go.Proofs.Try.prog [] f (.ptr b 0 :: xs) none h (.ret v) none (hd h b t d') := by
  refine SCall.frameL (n := 0) [b, t] rfl core (by simp [k.hbt]) (by simp [k.hb, k.ht]) (fun i => ?_) rfl (fun i c o hi ho => ?_) (dol_in d) ⟨(by show 1000 < glim + 2; decide), Ins.mono (fun i hi => Nat.lt_of_lt_of_le hi (Nat.le_add_right _ _)) ha⟩ (hv.mono fun i hi => Nat.lt_of_lt_of_le hi (Nat.le_add_right _ _)) (dol_in _) ?_ (V.ren_id (fun i hi => ρL_low hi) hv) rfl rfl (fun i hi => ?_) (fun c hc => ?_)
  · simp only [dol, og_cons]
    show _ ↔ 1000 ≤ i ∧ i < 1002
    split
    · simp; omega
    · split
      · simp; omega
      · simp [og]; omega
  · match i, hi with
    | 0, hi =>
      cases hi; cases ho
      simp only [Obj.ren, encD_ren]; exact k.ob
    | 1, hi =>
      cases hi; cases ho
      exact k.tk
  · show _ :: rens _ xs = _
    rw [rens_low ha]; rfl
  · have hi : i < 2 := hi
    match i, hi with
    | 0, _ =>
      show ((h.put b _).put t _).ob b = _
      simp only [H.put, k.hbt, if_false, if_true]
      show some _ = some (Obj.ren _ _)
      simp only [Obj.ren, encD_ren]; rfl
    | 1, _ =>
      show ((h.put b _).put t _).ob t = _
      simp only [H.put, if_true]
      rfl
  · have h0 := hc 0 (by show 0 < 2; decide)
    have h1 := hc 1 (by show 1 < 2; decide)
    have h0 : b ≠ c := h0
    have h1 : t ≠ c := h1
    simp only [hd, H.put]
    rw [if_neg (fun e => h1 e.symm), if_neg (fun e => h0 e.symm)]

theorem disk_read {f : FuncId} {xs : List V} {v : V} {d : Dk} (core : SCall Go.Proofs.Try.prog [] f (.ptr 1000 0 :: xs) none ⟨1002, og (dol d), []⟩ (.ret v) none ⟨1002, og (dol d), []⟩) (ha : Ins (· < glim) xs) (hv : v.In (· < glim)) {h : H} {b t : Nat} (k : HD h b t d) :
    SCall Go.Proofs.Try.prog [] f (.ptr b 0 :: xs) none h (.ret v) none h := by
  have := disk_lift core ha hv k
  rwa [hd_same k] at this

def fuseF (d : Dk) (n : Int) : Dk × Int := if d.off then (d, 180) else ({ d with fuse := if -1 > n then -1 else n }, 0)
def powerF (d : Dk) : Dk := { d with off := false, fuse := -1 }
def areaF (d : Dk) (n : Int) : List Nat × Int := if d.off then ([], 180) else if n = 0 then (d.a0, 0) else if n = 1 then (d.a1, 0) else ([], 181)
def nowF (d : Dk) : Int × Int := if d.off then (0, 180) else (d.root, 0)

theorem fuse_core (d : Dk) (n : Int) : SCall Go.Proofs.Try.prog [] 15 [.ptr 1000 0, .int .i64 n] none ⟨1002, og (dol d), []⟩ (.ret (.int .i64 (fuseF d n).2)) none ⟨1002, og (dol (fuseF d n).1), []⟩ := by
  refine SCall.listed (fn := Go.Proofs.Try.f15) (by kernel_rfl) res15 (by kernel_rfl) (by kernel_rfl) (Nat.le_refl _) rfl (dol_in _) trivial ?_
  unfold rc15
  repeat (first | refine WR.seq ?_ | refine WR.block ?_ | refine WR.scope ?_ | refine WR.skip ?_ | refine WR.exit ?_ | refine WR.condT rfl ?_ | refine WR.condF rfl ?_ | refine WR.reg (WQ.runS [] 1000 _ _ _ _ rfl ?_) | refine WQ.nilS ?_ | refine WR.dreg hmix (DW.runS [] 1000 _ _ _ _ _ _ rfl ?_))
  refine WR.cond rfl (fun h1 => ?_) (fun h1 => ?_)
  · have hw : fuseF d n = (d, 180) := by simp [fuseF, h1]
    rw [hw]
    repeat (first | refine WR.seq ?_ | refine WR.block ?_ | refine WR.scope ?_ | refine WR.skip ?_ | refine WR.exit ?_ | refine WR.condT rfl ?_ | refine WR.condF rfl ?_ | refine WR.reg (WQ.runS [] 1000 _ _ _ _ rfl ?_) | refine WQ.nilS ?_ | refine WR.dreg hmix (DW.runS [] 1000 _ _ _ _ _ _ rfl ?_))
    refine WR.ret ⟨rfl, rfl, ⟨_, rfl, VLe.refl _⟩, fun b _ => rfl⟩
  · have hw : fuseF d n = ({ d with fuse := if -1 > n then -1 else n }, 0) := by simp [fuseF, h1]
    rw [hw]
    repeat (first | refine WR.seq ?_ | refine WR.block ?_ | refine WR.scope ?_ | refine WR.skip ?_ | refine WR.exit ?_ | refine WR.condT rfl ?_ | refine WR.condF rfl ?_ | refine WR.reg (WQ.runS [] 1000 _ _ _ _ rfl ?_) | refine WQ.nilS ?_ | refine WR.dreg hmix (DW.runS [] 1000 _ _ _ _ _ _ rfl ?_))
    refine WR.ret ⟨rfl, rfl, ⟨_, rfl, VLe.refl _⟩, fun b _ => rfl⟩

theorem setFuse_core (d : Dk) (n : Int) : SCall Go.Proofs.Try.prog [] 16 [.ptr 1000 0, .int .i64 n] none ⟨1002, og (dol d), []⟩ (.ret (.int .i64 (fuseF d n).2)) none ⟨1002, og (dol (fuseF d n).1), []⟩ := by
  refine SCall.listed (fn := Go.Proofs.Try.f16) (by kernel_rfl) res16 (by kernel_rfl) (by kernel_rfl) (Nat.le_refl _) rfl (dol_in _) trivial ?_
  unfold rc16
  repeat (first | refine WR.seq ?_ | refine WR.block ?_ | refine WR.scope ?_ | refine WR.skip ?_ | refine WR.exit ?_ | refine WR.condT rfl ?_ | refine WR.condF rfl ?_ | refine WR.reg (WQ.runS [] 1000 _ _ _ _ rfl ?_) | refine WQ.nilS ?_ | refine WR.dreg hmix (DW.runS [] 1000 _ _ _ _ _ _ rfl ?_))
  refine WR.cond rfl (fun h1 => ?_) (fun h1 => ?_)
  · have hw : fuseF d n = (d, 180) := by simp [fuseF, h1]
    rw [hw]
    repeat (first | refine WR.seq ?_ | refine WR.block ?_ | refine WR.scope ?_ | refine WR.skip ?_ | refine WR.exit ?_ | refine WR.condT rfl ?_ | refine WR.condF rfl ?_ | refine WR.reg (WQ.runS [] 1000 _ _ _ _ rfl ?_) | refine WQ.nilS ?_ | refine WR.dreg hmix (DW.runS [] 1000 _ _ _ _ _ _ rfl ?_))
    refine WR.ret ⟨rfl, rfl, ⟨_, rfl, VLe.refl _⟩, fun b _ => rfl⟩
  · repeat (first | refine WR.seq ?_ | refine WR.block ?_ | refine WR.scope ?_ | refine WR.skip ?_ | refine WR.exit ?_ | refine WR.condT rfl ?_ | refine WR.condF rfl ?_ | refine WR.reg (WQ.runS [] 1000 _ _ _ _ rfl ?_) | refine WQ.nilS ?_ | refine WR.dreg hmix (DW.runS [] 1000 _ _ _ _ _ _ rfl ?_))
    refine WR.cond rfl (fun h2 => ?_) (fun h2 => ?_)
    · have h2 := of_decide_eq_true h2
      have hw : fuseF d n = ({ d with fuse := -1 }, 0) := by
        have : (if -1 > n then -1 else n) = (-1 : Int) := by split <;> omega
        simp [fuseF, h1, this]
      rw [hw]
      repeat (first | refine WR.seq ?_ | refine WR.block ?_ | refine WR.scope ?_ | refine WR.skip ?_ | refine WR.exit ?_ | refine WR.condT rfl ?_ | refine WR.condF rfl ?_ | refine WR.reg (WQ.runS [] 1000 _ _ _ _ rfl ?_) | refine WQ.nilS ?_ | refine WR.dreg hmix (DW.runS [] 1000 _ _ _ _ _ _ rfl ?_))
      refine WR.ret ⟨rfl, rfl, ⟨_, rfl, VLe.refl _⟩, fun b _ => rfl⟩
    · have h2 := of_decide_eq_false h2
      have hw : fuseF d n = ({ d with fuse := n }, 0) := by
        have : (if -1 > n then -1 else n) = n := by split <;> omega
        simp [fuseF, h1, this]
      rw [hw]
      repeat (first | refine WR.seq ?_ | refine WR.block ?_ | refine WR.scope ?_ | refine WR.skip ?_ | refine WR.exit ?_ | refine WR.condT rfl ?_ | refine WR.condF rfl ?_ | refine WR.reg (WQ.runS [] 1000 _ _ _ _ rfl ?_) | refine WQ.nilS ?_ | refine WR.dreg hmix (DW.runS [] 1000 _ _ _ _ _ _ rfl ?_))
      refine WR.ret ⟨rfl, rfl, ⟨_, rfl, VLe.refl _⟩, fun b _ => rfl⟩

theorem power_core (d : Dk) : SCall Go.Proofs.Try.prog [] 18 [.ptr 1000 0] none ⟨1002, og (dol d), []⟩ (.ret (.int .i64 0)) none ⟨1002, og (dol (powerF d)), []⟩ := by
  refine SCall.listed (fn := Go.Proofs.Try.f18) (by kernel_rfl) res18 (by kernel_rfl) (by kernel_rfl) (Nat.le_refl _) rfl (dol_in _) trivial ?_
  unfold rc18
  repeat (first | refine WR.seq ?_ | refine WR.block ?_ | refine WR.scope ?_ | refine WR.skip ?_ | refine WR.exit ?_ | refine WR.condT rfl ?_ | refine WR.condF rfl ?_ | refine WR.reg (WQ.runS [] 1000 _ _ _ _ rfl ?_) | refine WQ.nilS ?_ | refine WR.dreg hmix (DW.runS [] 1000 _ _ _ _ _ _ rfl ?_))
  refine WR.ret ⟨rfl, rfl, ⟨_, rfl, VLe.refl _⟩, fun b _ => rfl⟩

theorem powerR_core (d : Dk) : SCall Go.Proofs.Try.prog [] 17 [.ptr 1000 0] none ⟨1002, og (dol d), []⟩ (.ret (.tup [])) none ⟨1002, og (dol (powerF d)), []⟩ := by
  refine SCall.listed (fn := Go.Proofs.Try.f17) (by kernel_rfl) res17 (by kernel_rfl) (by kernel_rfl) (Nat.le_refl _) rfl (dol_in _) trivial ?_
  unfold rc17
  repeat (first | refine WR.seq ?_ | refine WR.block ?_ | refine WR.scope ?_ | refine WR.skip ?_ | refine WR.exit ?_ | refine WR.condT rfl ?_ | refine WR.condF rfl ?_ | refine WR.reg (WQ.runS [] 1000 _ _ _ _ rfl ?_) | refine WQ.nilS ?_ | refine WR.dreg hmix (DW.runS [] 1000 _ _ _ _ _ _ rfl ?_))
  exact ⟨rfl, rfl, ⟨_, rfl, VLe.refl _⟩, fun b _ => rfl⟩

theorem now_core (d : Dk) : SCall Go.Proofs.Try.prog [] 21 [.ptr 1000 0] none ⟨1002, og (dol d), []⟩ (.ret (.tup [.int .i64 (nowF d).1, .int .i64 (nowF d).2])) none ⟨1002, og (dol d), []⟩ := by
  refine SCall.listed (fn := Go.Proofs.Try.f21) (by kernel_rfl) res21 (by kernel_rfl) (by kernel_rfl) (Nat.le_refl _) rfl (dol_in _) ⟨trivial, trivial, trivial⟩ ?_
  unfold rc21
  repeat (first | refine WR.seq ?_ | refine WR.block ?_ | refine WR.scope ?_ | refine WR.skip ?_ | refine WR.exit ?_ | refine WR.condT rfl ?_ | refine WR.condF rfl ?_ | refine WR.reg (WQ.runS [] 1000 _ _ _ _ rfl ?_) | refine WQ.nilS ?_ | refine WR.dreg hmix (DW.runS [] 1000 _ _ _ _ _ _ rfl ?_))
  refine WR.cond rfl (fun h1 => ?_) (fun h1 => ?_)
  · have hw : nowF d = (0, 180) := by simp [nowF, h1]
    rw [hw]
    repeat (first | refine WR.seq ?_ | refine WR.block ?_ | refine WR.scope ?_ | refine WR.skip ?_ | refine WR.exit ?_ | refine WR.condT rfl ?_ | refine WR.condF rfl ?_ | refine WR.reg (WQ.runS [] 1000 _ _ _ _ rfl ?_) | refine WQ.nilS ?_ | refine WR.dreg hmix (DW.runS [] 1000 _ _ _ _ _ _ rfl ?_))
    refine WR.ret ⟨rfl, rfl, ⟨_, rfl, VLe.refl _⟩, fun b _ => rfl⟩
  · have hw : nowF d = (d.root, 0) := by simp [nowF, h1]
    rw [hw]
    repeat (first | refine WR.seq ?_ | refine WR.block ?_ | refine WR.scope ?_ | refine WR.skip ?_ | refine WR.exit ?_ | refine WR.condT rfl ?_ | refine WR.condF rfl ?_ | refine WR.reg (WQ.runS [] 1000 _ _ _ _ rfl ?_) | refine WQ.nilS ?_ | refine WR.dreg hmix (DW.runS [] 1000 _ _ _ _ _ _ rfl ?_))
    refine WR.ret ⟨rfl, rfl, ⟨_, rfl, VLe.refl _⟩, fun b _ => rfl⟩

theorem nowR_core (d : Dk) : SCall Go.Proofs.Try.prog [] 22 [.ptr 1000 0] none ⟨1002, og (dol d), []⟩ (.ret (.tup [.int .i64 (nowF d).1, .int .i64 (nowF d).2])) none ⟨1002, og (dol d), []⟩ := by
  refine SCall.listed (fn := Go.Proofs.Try.f22) (by kernel_rfl) res22 (by kernel_rfl) (by kernel_rfl) (Nat.le_refl _) rfl (dol_in _) ⟨trivial, trivial, trivial⟩ ?_
  unfold rc22
  repeat (first | refine WR.seq ?_ | refine WR.block ?_ | refine WR.scope ?_ | refine WR.skip ?_ | refine WR.exit ?_ | refine WR.condT rfl ?_ | refine WR.condF rfl ?_ | refine WR.reg (WQ.runS [] 1000 _ _ _ _ rfl ?_) | refine WQ.nilS ?_ | refine WR.dreg hmix (DW.runS [] 1000 _ _ _ _ _ _ rfl ?_))
  refine WR.cond rfl (fun h1 => ?_) (fun h1 => ?_)
  · have hw : nowF d = (0, 180) := by simp [nowF, h1]
    rw [hw]
    repeat (first | refine WR.seq ?_ | refine WR.block ?_ | refine WR.scope ?_ | refine WR.skip ?_ | refine WR.exit ?_ | refine WR.condT rfl ?_ | refine WR.condF rfl ?_ | refine WR.reg (WQ.runS [] 1000 _ _ _ _ rfl ?_) | refine WQ.nilS ?_ | refine WR.dreg hmix (DW.runS [] 1000 _ _ _ _ _ _ rfl ?_))
    refine WR.ret ⟨rfl, rfl, ⟨_, rfl, VLe.refl _⟩, fun b _ => rfl⟩
  · have hw : nowF d = (d.root, 0) := by simp [nowF, h1]
    rw [hw]
    repeat (first | refine WR.seq ?_ | refine WR.block ?_ | refine WR.scope ?_ | refine WR.skip ?_ | refine WR.exit ?_ | refine WR.condT rfl ?_ | refine WR.condF rfl ?_ | refine WR.reg (WQ.runS [] 1000 _ _ _ _ rfl ?_) | refine WQ.nilS ?_ | refine WR.dreg hmix (DW.runS [] 1000 _ _ _ _ _ _ rfl ?_))
    refine WR.ret ⟨rfl, rfl, ⟨_, rfl, VLe.refl _⟩, fun b _ => rfl⟩

theorem area_core (d : Dk) (n : Int) : SCall Go.Proofs.Try.prog [] 19 [.ptr 1000 0, .int .i64 n] none ⟨1002, og (dol d), []⟩ (.ret (.tup [.str (areaF d n).1, .int .i64 (areaF d n).2])) none ⟨1002, og (dol d), []⟩ := by
  refine SCall.listed (fn := Go.Proofs.Try.f19) (by kernel_rfl) res19 (by kernel_rfl) (by kernel_rfl) (Nat.le_refl _) rfl (dol_in _) ⟨trivial, trivial, trivial⟩ ?_
  unfold rc19
  repeat (first | refine WR.seq ?_ | refine WR.block ?_ | refine WR.scope ?_ | refine WR.skip ?_ | refine WR.exit ?_ | refine WR.condT rfl ?_ | refine WR.condF rfl ?_ | refine WR.reg (WQ.runS [] 1000 _ _ _ _ rfl ?_) | refine WQ.nilS ?_ | refine WR.dreg hmix (DW.runS [] 1000 _ _ _ _ _ _ rfl ?_))
  refine WR.cond rfl (fun h1 => ?_) (fun h1 => ?_)
  · have hw : areaF d n = ([], 180) := by simp [areaF, h1]
    rw [hw]
    repeat (first | refine WR.seq ?_ | refine WR.block ?_ | refine WR.scope ?_ | refine WR.skip ?_ | refine WR.exit ?_ | refine WR.condT rfl ?_ | refine WR.condF rfl ?_ | refine WR.reg (WQ.runS [] 1000 _ _ _ _ rfl ?_) | refine WQ.nilS ?_ | refine WR.dreg hmix (DW.runS [] 1000 _ _ _ _ _ _ rfl ?_))
    refine WR.ret ⟨rfl, rfl, ⟨_, rfl, VLe.refl _⟩, fun b _ => rfl⟩
  repeat (first | refine WR.seq ?_ | refine WR.block ?_ | refine WR.scope ?_ | refine WR.skip ?_ | refine WR.exit ?_ | refine WR.condT rfl ?_ | refine WR.condF rfl ?_ | refine WR.reg (WQ.runS [] 1000 _ _ _ _ rfl ?_) | refine WQ.nilS ?_ | refine WR.dreg hmix (DW.runS [] 1000 _ _ _ _ _ _ rfl ?_))
  refine WQ.callH rfl rfl rfl rfl rfl (fits_spec _ _) .base rfl (WQ.runS [] 1000 _ _ _ _ rfl ?_)
  repeat (first | refine WR.seq ?_ | refine WR.block ?_ | refine WR.scope ?_ | refine WR.skip ?_ | refine WR.exit ?_ | refine WR.condT rfl ?_ | refine WR.condF rfl ?_ | refine WR.reg (WQ.runS [] 1000 _ _ _ _ rfl ?_) | refine WQ.nilS ?_ | refine WR.dreg hmix (DW.runS [] 1000 _ _ _ _ _ _ rfl ?_))
  refine WR.cond rfl (fun h2 => ?_) (fun h2 => ?_)
  · have hw : areaF d n = ([], 181) := by
      simp only [Bool.not_eq_true', Bool.or_eq_false_iff, decide_eq_false_iff_not] at h2
      simp [areaF, h1, h2]
    rw [hw]
    repeat (first | refine WR.seq ?_ | refine WR.block ?_ | refine WR.scope ?_ | refine WR.skip ?_ | refine WR.exit ?_ | refine WR.condT rfl ?_ | refine WR.condF rfl ?_ | refine WR.reg (WQ.runS [] 1000 _ _ _ _ rfl ?_) | refine WQ.nilS ?_ | refine WR.dreg hmix (DW.runS [] 1000 _ _ _ _ _ _ rfl ?_))
    refine WR.ret ⟨rfl, rfl, ⟨_, rfl, VLe.refl _⟩, fun b _ => rfl⟩
  · simp only [Bool.not_eq_false', Bool.or_eq_true, decide_eq_true_eq] at h2
    rcases h2 with rfl | rfl
    · have hw : areaF d 0 = (d.a0, 0) := by simp [areaF, h1]
      rw [hw]
      repeat (first | refine WR.seq ?_ | refine WR.block ?_ | refine WR.scope ?_ | refine WR.skip ?_ | refine WR.exit ?_ | refine WR.condT rfl ?_ | refine WR.condF rfl ?_ | refine WR.reg (WQ.runS [] 1000 _ _ _ _ rfl ?_) | refine WQ.nilS ?_ | refine WR.dreg hmix (DW.runS [] 1000 _ _ _ _ _ _ rfl ?_))
      refine WR.ret ⟨rfl, rfl, ⟨_, rfl, VLe.refl _⟩, fun b _ => rfl⟩
    · have hw : areaF d 1 = (d.a1, 0) := by simp [areaF, h1]
      rw [hw]
      repeat (first | refine WR.seq ?_ | refine WR.block ?_ | refine WR.scope ?_ | refine WR.skip ?_ | refine WR.exit ?_ | refine WR.condT rfl ?_ | refine WR.condF rfl ?_ | refine WR.reg (WQ.runS [] 1000 _ _ _ _ rfl ?_) | refine WQ.nilS ?_ | refine WR.dreg hmix (DW.runS [] 1000 _ _ _ _ _ _ rfl ?_))
      refine WR.ret ⟨rfl, rfl, ⟨_, rfl, VLe.refl _⟩, fun b _ => rfl⟩

theorem areaR_core (d : Dk) (n : Int) : SCall Go.Proofs.Try.prog [] 20 [.ptr 1000 0, .int .i64 n] none ⟨1002, og (dol d), []⟩ (.ret (.tup [.str (areaF d n).1, .int .i64 (areaF d n).2])) none ⟨1002, og (dol d), []⟩ := by
  refine SCall.listed (fn := Go.Proofs.Try.f20) (by kernel_rfl) res20 (by kernel_rfl) (by kernel_rfl) (Nat.le_refl _) rfl (dol_in _) ⟨trivial, trivial, trivial⟩ ?_
  unfold rc20
  repeat (first | refine WR.seq ?_ | refine WR.block ?_ | refine WR.scope ?_ | refine WR.skip ?_ | refine WR.exit ?_ | refine WR.condT rfl ?_ | refine WR.condF rfl ?_ | refine WR.reg (WQ.runS [] 1000 _ _ _ _ rfl ?_) | refine WQ.nilS ?_ | refine WR.dreg hmix (DW.runS [] 1000 _ _ _ _ _ _ rfl ?_))
  refine WR.cond rfl (fun h1 => ?_) (fun h1 => ?_)
  · have hw : areaF d n = ([], 180) := by simp [areaF, h1]
    rw [hw]
    repeat (first | refine WR.seq ?_ | refine WR.block ?_ | refine WR.scope ?_ | refine WR.skip ?_ | refine WR.exit ?_ | refine WR.condT rfl ?_ | refine WR.condF rfl ?_ | refine WR.reg (WQ.runS [] 1000 _ _ _ _ rfl ?_) | refine WQ.nilS ?_ | refine WR.dreg hmix (DW.runS [] 1000 _ _ _ _ _ _ rfl ?_))
    refine WR.ret ⟨rfl, rfl, ⟨_, rfl, VLe.refl _⟩, fun b _ => rfl⟩
  refine WR.skip ?_
  refine WR.seq ?_
  refine WR.seq ?_
  refine WR.reg (WQ.runS [] 3 _ _ _ _ rfl ?_)
  refine WQ.guard 12 rfl (fun hb => ?_) (fun hb => ?_) <;> rw [hb]
  · have hb := of_decide_eq_true hb
    have hw : areaF d n = ([], 181) := by
      have : ¬ n = 0 ∧ ¬ n = 1 := by omega
      simp [areaF, h1, this.1, this.2]
    rw [hw]
    refine WQ.runS [] 1000 _ _ _ _ rfl (WQ.nilS ?_)
    repeat (first | refine WR.seq ?_ | refine WR.block ?_ | refine WR.scope ?_ | refine WR.skip ?_ | refine WR.exit ?_ | refine WR.condT rfl ?_ | refine WR.condF rfl ?_ | refine WR.reg (WQ.runS [] 1000 _ _ _ _ rfl ?_) | refine WQ.nilS ?_ | refine WR.dreg hmix (DW.runS [] 1000 _ _ _ _ _ _ rfl ?_))
    refine WR.ret ⟨rfl, rfl, ⟨_, rfl, VLe.refl _⟩, fun b _ => rfl⟩
  · have hb := of_decide_eq_false hb
    refine WQ.runS [] 1000 _ _ _ _ rfl (WQ.nilS ?_)
    refine WR.cond rfl (fun h2 => ?_) (fun h2 => ?_)
    · have h2 := of_decide_eq_true h2
      have hw : areaF d n = ([], 181) := by
        have : ¬ n = 0 ∧ ¬ n = 1 := by omega
        simp [areaF, h1, this.1, this.2]
      rw [hw]
      repeat (first | refine WR.seq ?_ | refine WR.block ?_ | refine WR.scope ?_ | refine WR.skip ?_ | refine WR.exit ?_ | refine WR.condT rfl ?_ | refine WR.condF rfl ?_ | refine WR.reg (WQ.runS [] 1000 _ _ _ _ rfl ?_) | refine WQ.nilS ?_ | refine WR.dreg hmix (DW.runS [] 1000 _ _ _ _ _ _ rfl ?_))
      refine WR.ret ⟨rfl, rfl, ⟨_, rfl, VLe.refl _⟩, fun b _ => rfl⟩
    · have h2 := of_decide_eq_false h2
      have : n = 0 ∨ n = 1 := by omega
      rcases this with rfl | rfl
      · have hw : areaF d 0 = (d.a0, 0) := by simp [areaF, h1]
        rw [hw]
        repeat (first | refine WR.seq ?_ | refine WR.block ?_ | refine WR.scope ?_ | refine WR.skip ?_ | refine WR.exit ?_ | refine WR.condT rfl ?_ | refine WR.condF rfl ?_ | refine WR.reg (WQ.runS [] 1000 _ _ _ _ rfl ?_) | refine WQ.nilS ?_ | refine WR.dreg hmix (DW.runS [] 1000 _ _ _ _ _ _ rfl ?_))
        refine WR.ret ⟨rfl, rfl, ⟨_, rfl, VLe.refl _⟩, fun b _ => rfl⟩
      · have hw : areaF d 1 = (d.a1, 0) := by simp [areaF, h1]
        rw [hw]
        repeat (first | refine WR.seq ?_ | refine WR.block ?_ | refine WR.scope ?_ | refine WR.skip ?_ | refine WR.exit ?_ | refine WR.condT rfl ?_ | refine WR.condF rfl ?_ | refine WR.reg (WQ.runS [] 1000 _ _ _ _ rfl ?_) | refine WQ.nilS ?_ | refine WR.dreg hmix (DW.runS [] 1000 _ _ _ _ _ _ rfl ?_))
        refine WR.ret ⟨rfl, rfl, ⟨_, rfl, VLe.refl _⟩, fun b _ => rfl⟩
end Go.VM
