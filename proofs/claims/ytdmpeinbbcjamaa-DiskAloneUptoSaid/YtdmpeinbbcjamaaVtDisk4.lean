/- The disk of the program and the document's: new ones; whether two lists are the same; what writes make. -/
import Derived.Test.YtdmpeinbbcjamaaVtDisk3
set_option maxRecDepth 100000
set_option linter.unusedVariables false
set_option linter.unusedSimpArgs false
namespace Go.VM
open Go.RowKit

def d0 : Dk := ⟨[], [], 0, false, -1, []⟩

/-- memory with one more disk. -/
def nd (h : H) (d : Dk) : H := (h.new (.cells false (encD d (h.nxt + 1)))).new (.tok d.ws.length)

theorem nd_hd {h : H} {d : Dk} (hg : glim ≤ h.nxt) : HD (nd h d) h.nxt (h.nxt + 1) d :=
  ⟨hg, by omega, by omega, by
    show (if h.nxt = h.nxt + 1 then _ else if h.nxt = h.nxt then _ else _) = _
    rw [if_neg (by omega), if_pos rfl], by
    show (if h.nxt + 1 = h.nxt + 1 then _ else _) = _
    rw [if_pos rfl]⟩

def encN : List V := [.str [], .str [], .int .i64 0, .bool false, .int .i64 (-1), .lst [] (.ex 0)]

theorem new_tell {f : FuncId} {h : H} (core : SCall Go.Proofs.Try.prog [] f [] none h (.ret (.ptr h.nxt 0)) none (h.new (.cells false encN))) (hg : glim ≤ h.nxt) : SCall Go.Proofs.Try.prog [] f [] none h (.ret (.ptr h.nxt 0)) none (nd h d0) := by
  have c1 := core.heap (HW.tok _) rfl (fun _ _ => trivial) rfl ⟨_, rfl⟩
  have c2 := c1.cells (b := h.nxt) (o := 0) (op := false) (cs := encN) (cs' := encD d0 (h.nxt + 1)) (by
    show (if h.nxt = h.nxt + 1 then _ else if h.nxt = h.nxt then _ else _) = _
    rw [if_neg (by omega), if_pos rfl]) hg ⟨rfl, fun E i v x hi r => by
      match i, hi with
      | 0, hi => cases hi; exact ⟨_, rfl, rfl, r⟩
      | 1, hi => cases hi; exact ⟨_, rfl, rfl, r⟩
      | 2, hi => cases hi; exact ⟨_, rfl, rfl, r⟩
      | 3, hi => cases hi; exact ⟨_, rfl, rfl, r⟩
      | 4, hi => cases hi; exact ⟨_, rfl, rfl, r⟩
      | 5, hi => cases hi; exact ⟨_, rfl, rfl, VLe.tok0 _ E x r⟩
      | n + 6, hi => simp [encN] at hi⟩
  have e : ((h.new (.cells false encN)).new (.tok 0)).put h.nxt (.cells false (encD d0 (h.nxt + 1))) = nd h d0 := by
    unfold nd H.put H.new
    congr 1
    funext k
    simp only
    by_cases h1 : k = h.nxt
    · rw [if_pos h1, if_neg (by omega), if_pos h1]
    · rw [if_neg h1]; split
      · rfl
      · rfl
  rwa [e] at c2

theorem SCall.begun {P : Program} {f : FuncId} {args : List V} {u u' : Option AMode} {h h' : H} {r : AEnd} (hlc : h'.lc = h.lc) (hfn : ∃ fn, P.funcs[f]? = some fn ∧ fn.body.isSome = true ∧ (fn.name == "runtime.NumGoroutine") = false)
    (k : glim ≤ h.nxt → SCall P [] f args u h r u' h') : SCall P [] f args u h r u' h' :=
  SCall.known hlc hfn fun ⟨_, _, _, _, _, b⟩ => k b.mr.glo

theorem encN_ren {ρ : Nat → Nat} : rens ρ encN = encN := rfl

theorem new_lift {f : FuncId} {h : H} (core : SCall Go.Proofs.Try.prog [] f [] none ⟨1000, og [], []⟩ (.ret (.ptr 1000 0)) none ⟨1001, og [(1000, .cells false encN)], []⟩) : SCall Go.Proofs.Try.prog [] f [] none h (.ret (.ptr h.nxt 0)) none (nd h d0) := by
  refine SCall.begun rfl core.fn fun hg => new_tell ?_ hg
  have r0 : ρL [] h.nxt 1000 = h.nxt := (ρL_new (bs := []) (i := 1000) (Nat.le_refl _)).trans (by simp [glim])
  refine SCall.frameL (n := 1) [] rfl core .nil (by simp) (fun i => ?_) rfl (fun i c o hi ho => by cases hi) trivial trivial (by show (1000 : Nat) < _; decide) (by exact ⟨⟨trivial, trivial, trivial, trivial, trivial, ⟨trivial, trivial⟩, trivial⟩, trivial⟩) rfl ?_ rfl rfl (fun i hi => ?_) (fun c hc => ?_)
  · show (Option.isSome none = true) ↔ 1000 ≤ i ∧ i < 1000
    simp
  · show V.ptr (ρL [] h.nxt 1000) 0 = _
    rw [r0]
  · have hi : i = 0 := by have : i < 1 := hi; omega
    subst hi
    show (h.new _).ob (ρL [] h.nxt 1000) = _
    rw [r0]
    show (if h.nxt = h.nxt then _ else _) = _
    rw [if_pos rfl]; rfl
  · have : ρL [] h.nxt 1000 ≠ c := hc 0 (by show 0 < 1; decide)
    rw [r0] at this
    show (if c = h.nxt then _ else _) = _
    rw [if_neg (fun e => this e.symm)]

theorem new_call (h : H) : SCall Go.Proofs.Try.prog [] 10 [] none h (.ret (.ptr h.nxt 0)) none (nd h d0) := by
  refine new_lift ?_
  refine SCall.listed (fn := Go.Proofs.Try.f10) (by kernel_rfl) res10 (by kernel_rfl) (by kernel_rfl) (Nat.le_succ _) rfl (⟨⟨trivial, trivial, trivial, trivial, trivial, ⟨trivial, trivial⟩, trivial⟩, trivial⟩) (by show (1000 : Nat) < 1001; decide) ?_
  unfold rc10
  refine WR.seq (WR.reg (WQ.runS [] 1000 _ _ _ _ rfl (WQ.nilS ?_)))
  refine WR.seq (WR.reg (WQ.runS [2] 1000 _ _ _ _ rfl (WQ.nilS ?_)))
  refine WR.ret ⟨rfl, rfl, ⟨_, rfl, VLe.refl _⟩, fun b _ => rfl⟩

theorem newR_call (h : H) : SCall Go.Proofs.Try.prog [] 11 [] none h (.ret (.ptr h.nxt 0)) none (nd h d0) := by
  refine new_lift ?_
  refine SCall.listed (fn := Go.Proofs.Try.f11) (by kernel_rfl) res11 (by kernel_rfl) (by kernel_rfl) (Nat.le_succ _) rfl (⟨⟨trivial, trivial, trivial, trivial, trivial, ⟨trivial, trivial⟩, trivial⟩, trivial⟩) (by show (1000 : Nat) < 1001; decide) ?_
  unfold rc11
  refine WR.seq (WR.reg (WQ.runS [] 1000 _ _ _ _ rfl (WQ.nilS ?_)))
  refine WR.seq (WR.reg (WQ.runS [2] 1000 _ _ _ _ rfl (WQ.nilS ?_)))
  refine WR.ret ⟨rfl, rfl, ⟨_, rfl, VLe.refl _⟩, fun b _ => rfl⟩

theorem wrapS (i : Nat) (h : i < 9223372036854775807) : IntKind.i64.wrap ((i : Int) + 1) = ((i + 1 : Nat) : Int) := by rw [wrap64 (by omega) (by omega)]; rfl

/-! ### are two lists the same? -/
def sameTm (l : List Wr) (i : Nat) : TM := [(0, .v (.lst (l.map encW) .unk)), (1, .v (.lst (l.map encW) .unk)), (5, .v (.int .i64 i))]

theorem same_loop (l : List Wr) (hl : l.length ≤ 1000000) {QN : S → Prop} {QX : X → S → Prop} (hx : ∀ tm, QX (.exit 0) (SL.toS ⟨tm, [], none, 1000, [], []⟩)) : ∀ n i : Nat, i + n = l.length →
    WLr Go.Proofs.Try.prog [] ⟨Go.Proofs.Try.f23.ntmps, none, 23⟩ rc23_L1 (SL.toS ⟨sameTm l i, [], none, 1000, [], []⟩) QN QX := by
  intro n
  induction n with
  | zero =>
    intro i hi
    unfold rc23_L1
    refine WLr.of ?_
    repeat (first | refine WR.seq ?_ | refine WR.block ?_ | refine WR.scope ?_ | refine WR.skip ?_ | refine WR.exit ?_ | refine WR.condT rfl ?_ | refine WR.condF rfl ?_ | refine WR.reg (WQ.runS [] 1000 _ _ _ _ rfl ?_) | refine WQ.nilS ?_ | refine WR.dreg hmix (DW.runS [] 1000 _ _ _ _ _ _ rfl ?_))
    refine WR.cond rfl (fun h1 => ?_) (fun h1 => ?_)
    · have h1 := of_decide_eq_true h1
      simp at h1; omega
    · repeat (first | refine WR.seq ?_ | refine WR.block ?_ | refine WR.scope ?_ | refine WR.skip ?_ | refine WR.exit ?_ | refine WR.condT rfl ?_ | refine WR.condF rfl ?_ | refine WR.reg (WQ.runS [] 1000 _ _ _ _ rfl ?_) | refine WQ.nilS ?_ | refine WR.dreg hmix (DW.runS [] 1000 _ _ _ _ _ _ rfl ?_))
      exact hx _
  | succ n ih =>
    intro i hi
    have hlt : i < l.length := by omega
    have hg : (l.map encW)[i]? = some (encW l[i]) := by simp [hlt]
    unfold rc23_L1
    refine WLr.of ?_
    repeat (first | refine WR.seq ?_ | refine WR.block ?_ | refine WR.scope ?_ | refine WR.skip ?_ | refine WR.exit ?_ | refine WR.condT rfl ?_ | refine WR.condF rfl ?_ | refine WR.reg (WQ.runS [] 1000 _ _ _ _ rfl ?_) | refine WQ.nilS ?_ | refine WR.dreg hmix (DW.runS [] 1000 _ _ _ _ _ _ rfl ?_))
    refine WR.cond rfl (fun h1 => ?_) (fun h1 => ?_)
    · repeat (first | refine WR.seq ?_ | refine WR.block ?_ | refine WR.scope ?_ | refine WR.skip ?_ | refine WR.exit ?_ | refine WR.condT rfl ?_ | refine WR.condF rfl ?_ | refine WR.reg (WQ.runS [] 1000 _ _ _ _ rfl ?_) | refine WQ.nilS ?_ | refine WR.dreg hmix (DW.runS [] 1000 _ _ _ _ _ _ rfl ?_))
      refine WR.dreg hmix (DW.runS [] 2 _ _ _ _ _ _ rfl ?_)
      refine DW.pureS rfl (fun h => ia_at rfl rfl hg rfl) rfl (DW.runS [] 3 _ _ _ _ _ _ rfl ?_)
      refine DW.pureS rfl (fun h => ia_at rfl rfl hg rfl) rfl (DW.runS [] 3 _ _ _ _ _ _ rfl ?_)
      refine DW.finS (by repeat (first | exact .nil | refine PendR.passM rfl ?_ | refine PendR.sameM rfl ?_ | refine PendR.lightM rfl ?_)) ?_
      refine WR.cond rfl (fun h2 => ?_) (fun h2 => ?_)
      · simp at h2
      · repeat (first | refine WR.seq ?_ | refine WR.block ?_ | refine WR.scope ?_ | refine WR.skip ?_ | refine WR.exit ?_ | refine WR.condT rfl ?_ | refine WR.condF rfl ?_ | refine WR.reg (WQ.runS [] 1000 _ _ _ _ rfl ?_) | refine WQ.nilS ?_ | refine WR.dreg hmix (DW.runS [] 1000 _ _ _ _ _ _ rfl ?_))
        rw [wrapS i (by omega)]
        refine WIr.again (WLr.weak (s := SL.toS ⟨sameTm l (i + 1), [], none, 1000, [], []⟩) ?_ ?_)
        · refine SW.tellR ?_ ?_
          · repeat (first | exact .nil | refine .cons rfl (.v (VLe.refl _)) ?_ | refine .cons rfl (.l _ _ rfl) ?_ | refine .cons rfl (.v (VLe.unk _ _)) ?_)
          · repeat (first | exact .nil | refine .cons rfl (.inl rfl) ?_)
        exact ih (i + 1) (by omega)
    · have h1 := of_decide_eq_false h1
      simp at h1; omega

theorem same_spec (l : List Wr) (hl : l.length ≤ 1000000) (c1 c2 : LC) (h : H) : SCall Go.Proofs.Try.prog [] 23 [.lst (l.map encW) c1, .lst (l.map encW) c2] none h (.ret (.bool true)) none h := by
  have key : SCall Go.Proofs.Try.prog [] 23 [.lst (l.map encW) .unk, .lst (l.map encW) .unk] none h (.ret (.bool true)) none h := by
    refine SCall.pure0 rfl ?_ (by exact ⟨⟨encWs_in l, trivial⟩, ⟨encWs_in l, trivial⟩, trivial⟩) (by exact trivial) h
    refine SCall.listed (fn := Go.Proofs.Try.f23) (by kernel_rfl) res23 (by kernel_rfl) (by kernel_rfl) (Nat.le_refl _) rfl (trivial) trivial ?_
    unfold rc23
    repeat (first | refine WR.seq ?_ | refine WR.block ?_ | refine WR.scope ?_ | refine WR.skip ?_ | refine WR.exit ?_ | refine WR.condT rfl ?_ | refine WR.condF rfl ?_ | refine WR.reg (WQ.runS [] 1000 _ _ _ _ rfl ?_) | refine WQ.nilS ?_ | refine WR.dreg hmix (DW.runS [] 1000 _ _ _ _ _ _ rfl ?_))
    refine WR.cond rfl (fun h1 => ?_) (fun h1 => ?_)
    · simp at h1
    repeat (first | refine WR.seq ?_ | refine WR.block ?_ | refine WR.scope ?_ | refine WR.skip ?_ | refine WR.exit ?_ | refine WR.condT rfl ?_ | refine WR.condF rfl ?_ | refine WR.reg (WQ.runS [] 1000 _ _ _ _ rfl ?_) | refine WQ.nilS ?_ | refine WR.dreg hmix (DW.runS [] 1000 _ _ _ _ _ _ rfl ?_))
    refine WR.loop (WLr.weak (s := SL.toS ⟨sameTm l 0, [], none, 1000, [], []⟩) ?_ (same_loop l hl (fun tm => ?_) l.length 0 (by omega)))
    · refine SW.tellR ?_ ?_
      · repeat (first | exact .nil | refine .cons rfl (.v (VLe.refl _)) ?_ | refine .cons rfl (.l _ _ rfl) ?_ | refine .cons rfl (.v (VLe.unk _ _)) ?_)
      · repeat (first | exact .nil | refine .cons rfl (.inl rfl) ?_)
    show WR Go.Proofs.Try.prog [] _ _ _ _ _
    repeat (first | refine WR.seq ?_ | refine WR.block ?_ | refine WR.scope ?_ | refine WR.skip ?_ | refine WR.exit ?_ | refine WR.condT rfl ?_ | refine WR.condF rfl ?_ | refine WR.reg (WQ.runS [] 1000 _ _ _ _ rfl ?_) | refine WQ.nilS ?_ | refine WR.dreg hmix (DW.runS [] 1000 _ _ _ _ _ _ rfl ?_))
    refine WR.ret ⟨rfl, rfl, ⟨_, rfl, VLe.refl _⟩, fun b _ => rfl⟩
  refine key.args fun E l' r => ?_
  cases r with
  | cons _ v' _ l' r0 t => cases t with
    | cons _ v2 _ l2 r1 t => cases t; exact .cons _ _ _ _ r0.clean1 (.cons _ _ _ _ r1.clean1 .nil)
end Go.VM
