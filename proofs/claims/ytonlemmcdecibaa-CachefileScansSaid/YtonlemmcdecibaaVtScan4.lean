/- laid for this seat: VtScan4 -/
import Derived.Test.YtonlemmcdecibaaVtScan3
/- The cache's file: Scan. -/
set_option maxRecDepth 100000
set_option linter.unusedVariables false
set_option linter.unusedSimpArgs false
namespace Go.VM
open Go.RowKit
theorem mem_ref {lv : V} {good last : Nat} {b : List Nat} {lp : ALoop} {a : Nat} {w : Bool} {row : OL} {nx : Nat} (hn : 1007 ≤ nx) (hlv : lv.In (· < nx)) (hrow : olIn (· < nx) row) (hlp : lp.tmps = tm12) :
  ∀ c o, c ≠ 1004 → og (mem lv good last b lp a w row) c = some o → ORefLt nx o := by
 intro c o h4 ho
 by_cases h5 : c = 1005
 ·subst h5
  cases ho
  refine loop_refLt (fun t v hv => ?_)
  rw [hlp] at hv
  have := tg_mem hv
  simp only [tm12, List.mem_cons, List.not_mem_nil, or_false, Prod.mk.injEq] at this
  rcases this with ⟨_, rfl⟩ | ⟨_, rfl⟩ | ⟨_, rfl⟩
  ·exact ⟨_, rfl, show 1000 < nx by omega⟩
  ·exact ⟨_, rfl, show 1001 < nx by omega⟩
  ·exact ⟨_, rfl, show 1002 < nx by omega⟩
 ·simp only [mem, og_cons] at ho
  split at ho
  ·cases ho; exact Obj.In.refLt (o := .cells false _) ⟨hlv, trivial⟩
  split at ho
  ·cases ho; exact Obj.In.refLt (o := .cells false _) ⟨trivial, trivial⟩
  split at ho
  ·cases ho; exact Obj.In.refLt (o := .cells false _) ⟨trivial, trivial⟩
  split at ho
  ·cases ho; exact Obj.In.refLt (o := .cells false _) ⟨trivial, trivial⟩
  split at ho
  ·cases ho; exact Obj.In.refLt (o := .cells false _) ⟨trivial, trivial, trivial, trivial⟩
  exact (olIn_get hrow c o ho).refLt
theorem lpE_tmps (j : Bool) (asC bdC : Code) : (lpE j asC bdC).tmps = tm12 := by cases j <;> rfl
noncomputable def pre (b : List Nat) (lp : ALoop) : OL := (1000, .cells false [.lst [] (.ex 0)]) :: (1001, .cells false [.int .i64 0]) :: (1002, .cells false [.int .i64 0]) :: (1003, .cells false [.str b]) :: (1004, .dfr (some [])) :: (1005, .loop lp) :: []
def sc0 : Sc := ⟨[], 0, 0⟩
def scanR (b : List Nat) : Sc × Nat × Bool × Bool := scanL b (b.length + 1) 0 sc0
theorem iter_spec {asC bdC : Code} (ha : resC Go.Proofs.Try.prog asC = some scA) (hb : resC Go.Proofs.Try.prog bdC = some scB) (b : List Nat) (hlen : b.length ≤ 4000) (h8 : ∀ x ∈ b, x < 256) :
  SCall Go.Proofs.Try.prog [] 61 [.fn (.yield 1005) [] [], .ptr 1003 0] none ⟨1006, og (pre b (lpS .ready none asC bdC)), []⟩ (.ret (.tup [])) none ⟨nxF (scanR b).1.l, og (memF (scanR b).1 b (lpE (scanR b).2.2.2 asC bdC) (scanR b).2.1 (scanR b).2.2.1), []⟩ := by
 have hR := rowR_F (scanR b).1.l
 refine SCall.listedC (fn := Go.Proofs.Try.f61) (by kernel_rfl) res61 (by kernel_rfl) (by kernel_rfl) (by simp only [nxF]; omega) (mem_B hR.nx hR.rowB) (fun c hc => ?_) trivial ?_
 ·by_cases h4 : c = 1004
  ·subst h4; exact .inl rfl
  ·exact .inr fun o ho => mem_ref hR.nx hR.lvIn hR.rowIn (lpE_tmps _ _ _) c o h4 ho
 unfold rc61
 refine WR.seq (WR.reg (WQ.runS [7] 1000 _ _ _ _ rfl (WQ.nilS ?_)))
 refine WR.block (WR.loop (WLr.weak (s := SL.toS ⟨tmL, [], none, nxF sc0.l, memF sc0 b (lpS .ready none asC bdC) 0 true, []⟩) ?_ (scan_loop ha hb b hlen h8 (b.length + 1) 0 sc0 (by omega) (by omega) (Nat.le_refl _) (Nat.le_refl _) (fun tm lc x hx => ?_))))
 ·refine SW.tellR ?_ ?_
  ·repeat (first | exact .nil | refine .cons rfl (.v (VLe.refl _)) ?_ | refine .cons rfl (.l _ _ rfl) ?_ | refine .cons rfl (.v (VLe.unk _ _)) ?_)
  ·repeat (first | exact .nil | refine .cons rfl (.inl rfl) ?_)
 rcases hx with rfl | rfl
 ·exact ⟨rfl, _, .nil, ⟨_, rfl, VLe.refl _⟩, fun _ _ => rfl⟩
 ·exact ⟨rfl, _, .nil, ⟨_, rfl, VLe.refl _⟩, fun _ _ => rfl⟩
theorem records_core (b : List Nat) : SCall Go.Proofs.Try.prog [] 35 [.str b] none ⟨1000, og [], []⟩ (.ret (.fn (.func 61) [] [.ptr 1000 0])) none ⟨1001, og [(1000, .cells false [.str b])], []⟩ := by
 refine SCall.listed (fn := Go.Proofs.Try.f35) (by kernel_rfl) res35 (by kernel_rfl) (by kernel_rfl) (Nat.le_succ _) rfl ⟨⟨trivial, trivial⟩, trivial⟩ ⟨trivial, trivial, (by show (1000 : Nat) < 1001; decide), trivial⟩ ?_
 unfold rc35
 refine WR.seq (WR.reg (WQ.runS [1] 1000 _ _ _ _ rfl (WQ.nilS ?_)))
 refine WR.seq (WR.reg (WQ.runS [] 1000 _ _ _ _ rfl (WQ.nilS ?_)))
 refine WR.ret ⟨rfl, rfl, ⟨_, rfl, VLe.refl _⟩, fun b _ => rfl⟩
theorem records_spec (b : List Nat) (h : H) (hg : glim ≤ h.nxt) : SCall Go.Proofs.Try.prog [] 35 [.str b] none h (.ret (.fn (.func 61) [] [.ptr h.nxt 0])) none (h.new (.cells false [.str b])) := by
 have r0 : ρL [] h.nxt 1000 = h.nxt := (ρL_new (bs := []) (i := 1000) (Nat.le_refl _)).trans (by simp [glim])
 refine SCall.frameL (n := 1) [] rfl (records_core b) .nil (by simp) (fun i => ?_) rfl (fun i c o hi ho => by cases hi) trivial ⟨trivial, trivial⟩ ⟨trivial, trivial, (by show (1000 : Nat) < 1001; decide), trivial⟩ (by exact ⟨⟨trivial, trivial⟩, trivial⟩) rfl ?_ rfl rfl (fun i hi => ?_) (fun c hc => ?_)
 ·show (Option.isSome none = true) ↔ 1000 ≤ i ∧ i < 1000
  simp
 ·show V.fn (.func 61) [] [V.ptr (ρL [] h.nxt 1000) 0] = _
  rw [r0]
 ·have hi : i = 0 := by have : i < 1 := hi; omega
  subst hi
  show (h.new _).ob (ρL [] h.nxt 1000) = _
  rw [r0]
  show (if h.nxt = h.nxt then _ else _) = _
  rw [if_pos rfl]; rfl
 ·have : ρL [] h.nxt 1000 ≠ c := hc 0 (by show 0 < 1; decide)
  rw [r0] at this
  show (if c = h.nxt then _ else _) = _
  rw [if_neg (fun e => this e.symm)]
def memX (lv : V) (good last : Nat) (b : List Nat) (lp : ALoop) (a : Nat) (w : Bool) (row : OL) : OL :=
 (1000, .cells false [lv]) :: (1001, .cells false [.int .i64 good]) :: (1002, .cells false [.int .i64 last]) :: (1003, .cells false [.str b]) :: (1004, .dfr none) :: (1005, .loop lp) :: (1006, .cells false (rdV b a w)) :: row
theorem memX_ref {lv : V} {good last : Nat} {b : List Nat} {lp : ALoop} {a : Nat} {w : Bool} {row : OL} {nx : Nat} (hn : 1007 ≤ nx) (hlv : lv.In (· < nx)) (hrow : olIn (· < nx) row) (hlp : lp.tmps = tm12) :
  ∀ c o, og (memX lv good last b lp a w row) c = some o → ORefLt nx o := by
 intro c o ho
 by_cases h4 : c = 1004
 ·subst h4; cases ho
  exact fun E p w h => h
 ·refine mem_ref (lv := lv) (good := good) (last := last) (b := b) (lp := lp) (a := a) (w := w) (row := row) hn hlv hrow hlp c o h4 ?_
  simp only [mem, memX, og_cons, if_neg h4] at ho ⊢
  exact ho
theorem memX_B {lv : V} {good last : Nat} {b : List Nat} {lp : ALoop} {a : Nat} {w : Bool} {row : OL} {nx : Nat} (h : 1007 ≤ nx) (hr : olB nx row = true) : olB nx (memX lv good last b lp a w row) = true := by
 have e : ∀ k, k < 1007 → Nat.blt k nx = true := fun k hk => by rw [Nat.blt_eq]; omega
 simp only [memX, olB, e 1000 (by omega), e 1001 (by omega), e 1002 (by omega), e 1003 (by omega), e 1004 (by omega), e 1005 (by omega), e 1006 (by omega), hr, Bool.and_self]
theorem scan_core (b : List Nat) (hlen : b.length ≤ 4000) (h8 : ∀ x ∈ b, x < 256) :
  ∃ lp : ALoop, SCall Go.Proofs.Try.prog [] 12 [.str b] none ⟨1000, og [], []⟩ (.ret (.tup [lvF (scanR b).1.l, .int .i64 (scanR b).1.good])) none ⟨nxF (scanR b).1.l, og (memX (lvF (scanR b).1.l) (scanR b).1.good (scanR b).1.last b lp (scanR b).2.1 (scanR b).2.2.1 (rowF (scanR b).1.l)), []⟩ := by
 have hR := rowR_F (scanR b).1.l
 have key := SCall.listedE (ι := Code × Code) (P := Go.Proofs.Try.prog) (gl := []) (f := 12) (fn := Go.Proofs.Try.f12) (rc := rc12) (args := [.str b]) (nx := 1000) (ol := []) (nx' := fun _ => nxF (scanR b).1.l)
  (ol' := fun c => memX (lvF (scanR b).1.l) (scanR b).1.good (scanR b).1.last b ⟨.exhausted, (if (scanR b).2.2.2 then some (.exit 0) else none), 12, false, tm12, Go.Proofs.Try.f12.ntmps, [8], c.1, c.2⟩ (scanR b).2.1 (scanR b).2.2.1 (rowF (scanR b).1.l))
  (v := fun _ => .tup [lvF (scanR b).1.l, .int .i64 (scanR b).1.good]) (by kernel_rfl) res12 (by kernel_rfl) (by kernel_rfl) (fun _ => by simp only [nxF]; omega) (fun _ => memX_B hR.nx hR.rowB) (fun _ c hc => .inr fun o ho => memX_ref hR.nx hR.lvIn hR.rowIn rfl c o ho) (fun _ => ⟨hR.lvIn, trivial, trivial⟩) ?_
 ·obtain ⟨i, hi⟩ := key
  exact ⟨_, hi⟩
 unfold rc12
 refine WR.seq (WR.reg (WQ.runS [2, 3] 1000 _ _ _ _ rfl (WQ.nilS ?_)))
 refine WR.scope (WR.seq (WR.reg (WQ.runS [4] 1000 _ _ _ _ rfl (WQ.nilS ?_))))
 refine WR.seq (WR.skip ?_)
 refine WR.seq (WR.seq (WR.reg (WQ.runS [] 1 _ _ _ _ rfl ?_)))
 refine WQ.callH rfl rfl rfl rfl rfl (records_spec b _ (by decide)) (.new .base rfl) rfl (WQ.nilS ?_)
 refine WR.block (WR.rng tm12 rfl rfl ?_ rfl (fun asC bdC ha hb => ?_))
 ·repeat (first | exact .nil | refine .cons rfl (.v (VLe.refl _)) ?_)
 refine ⟨_, _, _, lpE (scanR b).2.2.2 asC bdC, if (scanR b).2.2.2 then .exit 0 else .norm, iter_spec ha hb b hlen h8, rfl, ?_, ?_, ?_⟩
 ·cases (scanR b).2.2.2 <;> simp [lpE, lpS]
 ·cases (scanR b).2.2.2 <;> rfl
 generalize scanR b = R
 obtain ⟨⟨l, good, last⟩, a, w, j⟩ := R
 have fin : ∀ (lp : ALoop) (c : Nat), og (memX (lvF l) good last b lp a w (rowF l)) c = ((⟨nxF l, og (mem (lvF l) good last b lp a w (rowF l)), []⟩ : H).put 1004 (.dfr none)).ob c := fun lp c => by rw [og_put]; rfl
 cases j with
 | false =>
  show WR Go.Proofs.Try.prog [] _ rc12_J1 _ _ _
  unfold rc12_J1
  cases l with
  | nil =>
   refine WR.seq (WR.dreg hmix (DW.runS [] 1000 _ _ _ _ _ _ rfl ?_))
   refine DW.stS (by repeat (first | exact .nil | refine PendR.passM rfl ?_ | refine PendR.sameM rfl ?_ | refine PendR.lightM rfl ?_)) rfl rfl rfl rfl ?_
   refine DW.stS (by repeat (first | exact .nil | refine PendR.passM rfl ?_ | refine PendR.sameM rfl ?_ | refine PendR.lightM rfl ?_)) rfl rfl rfl rfl ?_
   refine DW.runS [] 1000 _ _ _ _ _ _ rfl ?_
   refine DW.finS (by repeat (first | exact .nil | refine PendR.passM rfl ?_ | refine PendR.sameM rfl ?_ | refine PendR.lightM rfl ?_)) ?_
   exact WR.ret ⟨(asC, bdC), rfl, _, .cons rfl .nil, ⟨_, rfl, VLe.refl _⟩, fun c _ => fin _ c⟩
  | cons e l =>
   refine WR.seq (WR.dreg hmix (DW.runS [] 1000 _ _ _ _ _ _ rfl ?_))
   refine DW.stS (by repeat (first | exact .nil | refine PendR.passM rfl ?_ | refine PendR.sameM rfl ?_ | refine PendR.lightM rfl ?_)) rfl rfl rfl rfl ?_
   refine DW.stS (by repeat (first | exact .nil | refine PendR.passM rfl ?_ | refine PendR.sameM rfl ?_ | refine PendR.lightM rfl ?_)) rfl rfl rfl rfl ?_
   refine DW.runS [] 1000 _ _ _ _ _ _ rfl ?_
   refine DW.finS (by repeat (first | exact .nil | refine PendR.passM rfl ?_ | refine PendR.sameM rfl ?_ | refine PendR.lightM rfl ?_)) ?_
   exact WR.ret ⟨(asC, bdC), rfl, _, .cons rfl .nil, ⟨_, rfl, VLe.refl _⟩, fun c _ => fin _ c⟩
 | true =>
  show WR Go.Proofs.Try.prog [] _ rc12_J1 _ _ _
  unfold rc12_J1
  cases l with
  | nil =>
   refine WR.seq (WR.dreg hmix (DW.runS [] 1000 _ _ _ _ _ _ rfl ?_))
   refine DW.stS (by repeat (first | exact .nil | refine PendR.passM rfl ?_ | refine PendR.sameM rfl ?_ | refine PendR.lightM rfl ?_)) rfl rfl rfl rfl ?_
   refine DW.stS (by repeat (first | exact .nil | refine PendR.passM rfl ?_ | refine PendR.sameM rfl ?_ | refine PendR.lightM rfl ?_)) rfl rfl rfl rfl ?_
   refine DW.runS [] 1000 _ _ _ _ _ _ rfl ?_
   refine DW.finS (by repeat (first | exact .nil | refine PendR.passM rfl ?_ | refine PendR.sameM rfl ?_ | refine PendR.lightM rfl ?_)) ?_
   exact WR.ret ⟨(asC, bdC), rfl, _, .cons rfl .nil, ⟨_, rfl, VLe.refl _⟩, fun c _ => fin _ c⟩
  | cons e l =>
   refine WR.seq (WR.dreg hmix (DW.runS [] 1000 _ _ _ _ _ _ rfl ?_))
   refine DW.stS (by repeat (first | exact .nil | refine PendR.passM rfl ?_ | refine PendR.sameM rfl ?_ | refine PendR.lightM rfl ?_)) rfl rfl rfl rfl ?_
   refine DW.stS (by repeat (first | exact .nil | refine PendR.passM rfl ?_ | refine PendR.sameM rfl ?_ | refine PendR.lightM rfl ?_)) rfl rfl rfl rfl ?_
   refine DW.runS [] 1000 _ _ _ _ _ _ rfl ?_
   refine DW.finS (by repeat (first | exact .nil | refine PendR.passM rfl ?_ | refine PendR.sameM rfl ?_ | refine PendR.lightM rfl ?_)) ?_
   exact WR.ret ⟨(asC, bdC), rfl, _, .cons rfl .nil, ⟨_, rfl, VLe.refl _⟩, fun c _ => fin _ c⟩
end Go.VM
