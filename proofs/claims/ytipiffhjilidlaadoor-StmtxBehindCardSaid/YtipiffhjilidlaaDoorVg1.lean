/- laid for this seat: VlLexA VlLexB VlLexC VlLexD -/
import Derived.Test.YtipiffhjilidlaaDoorVg0
import Derived.Test.YtipiffhjilidlaaDoorVmR
import Derived.Test.YtipiffhjilidlaaDoorVmT
section
/- Tokens: bytes. -/
set_option maxRecDepth 100000
set_option linter.unusedVariables false
set_option linter.unusedSimpArgs false
namespace Go.VM
open Go.RowKit
theorem hmix : Go.Proofs.Tryd.prog.follows .mixedOrders = true := by kernel_rfl
def lowB (c : Nat) : Int := IntKind.u8.wrap (BitVec.ofInt 8 c ||| BitVec.ofInt 8 32).toNat
def letterB (c : Nat) : Bool := (decide (lowB c ≥ 97) && decide (lowB c ≤ 122)) || decide ((c : Int) = 95)
def digitB (c : Nat) : Bool := decide ((c : Int) ≥ 48) && decide ((c : Int) ≤ 57)
def partB (c : Nat) : Bool := letterB c || digitB c
def quoteB (c : Nat) : Bool := (decide ((c : Int) ≥ 32) && decide ((c : Int) ≤ 126)) && !decide ((c : Int) = 34)
def lineB (c : Nat) : Bool := !decide ((c : Int) = 10)
theorem letter_spec (c : Nat) (h : H) : SCall Go.Proofs.Tryd.prog [] 45 [.int .u8 c] none h (.ret (.bool (letterB c))) none h := by
 refine SCall.pure0 rfl ?_ (by exact ⟨trivial, trivial⟩) (by exact trivial) h
 refine SCall.listed (fn := Go.Proofs.Tryd.f45) (by kernel_rfl) res45 (by kernel_rfl) (by kernel_rfl) (Nat.le_refl _) rfl (trivial) trivial ?_
 unfold rc45
 refine WR.seq (WR.reg (WQ.runS [] 1000 _ _ _ _ rfl (WQ.nilS ?_)))
 refine WR.seq (WR.reg (WQ.runS [] 3 _ _ _ _ rfl ?_))
 unfold letterB
 show WQ Go.Proofs.Tryd.prog [] _ _ (SL.toS ⟨(5, .v (.bool (decide (lowB c ≥ 97)))) :: _, _, _, _, _, _⟩) _ _
 cases decide (lowB c ≥ 97)
 ·refine WQ.runS [] 8 _ _ _ _ rfl ?_
  rw [Bool.false_and, Bool.false_or]
  refine WQ.runS [] 1000 _ _ _ _ rfl (WQ.nilS ?_)
  refine WR.ret ⟨rfl, rfl, ⟨_, rfl, VLe.refl _⟩, fun b _ => rfl⟩
 ·refine WQ.runS [] 4 _ _ _ _ rfl ?_
  rw [Bool.true_and]
  show WQ Go.Proofs.Tryd.prog [] _ _ (SL.toS ⟨(9, .v (.bool (decide (lowB c ≤ 122)))) :: _, _, _, _, _, _⟩) _ _
  cases decide (lowB c ≤ 122)
  ·rw [Bool.false_or]
   refine WQ.runS [] 1000 _ _ _ _ rfl (WQ.nilS ?_)
   refine WR.ret ⟨rfl, rfl, ⟨_, rfl, VLe.refl _⟩, fun b _ => rfl⟩
  ·rw [Bool.true_or]
   refine WQ.runS [] 1000 _ _ _ _ rfl (WQ.nilS ?_)
   refine WR.ret ⟨rfl, rfl, ⟨_, rfl, VLe.refl _⟩, fun b _ => rfl⟩
theorem digit_spec (c : Nat) (h : H) : SCall Go.Proofs.Tryd.prog [] 47 [.int .u8 c] none h (.ret (.bool (digitB c))) none h := by
 refine SCall.pure0 rfl ?_ (by exact ⟨trivial, trivial⟩) (by exact trivial) h
 refine SCall.listed (fn := Go.Proofs.Tryd.f47) (by kernel_rfl) res47 (by kernel_rfl) (by kernel_rfl) (Nat.le_refl _) rfl (trivial) trivial ?_
 unfold rc47
 refine WR.seq (WR.reg (WQ.runS [] 1000 _ _ _ _ rfl (WQ.nilS ?_)))
 refine WR.seq (WR.reg (WQ.runS [] 2 _ _ _ _ rfl ?_))
 unfold digitB
 cases decide ((c : Int) ≥ 48)
 ·rw [Bool.false_and]
  refine WQ.runS [] 1000 _ _ _ _ rfl (WQ.nilS ?_)
  refine WR.ret ⟨rfl, rfl, ⟨_, rfl, VLe.refl _⟩, fun b _ => rfl⟩
 ·rw [Bool.true_and]
  refine WQ.runS [] 1000 _ _ _ _ rfl (WQ.nilS ?_)
  refine WR.ret ⟨rfl, rfl, ⟨_, rfl, VLe.refl _⟩, fun b _ => rfl⟩
theorem part_spec (c : Nat) (h : H) : SCall Go.Proofs.Tryd.prog [] 46 [.int .u8 c] none h (.ret (.bool (partB c))) none h := by
 refine SCall.pure0 rfl ?_ (by exact ⟨trivial, trivial⟩) (by exact trivial) h
 refine SCall.listed (fn := Go.Proofs.Tryd.f46) (by kernel_rfl) res46 (by kernel_rfl) (by kernel_rfl) (Nat.le_refl _) rfl (trivial) trivial ?_
 unfold rc46
 refine WR.seq (WR.reg (WQ.runS [] 1000 _ _ _ _ rfl (WQ.nilS ?_)))
 refine WR.seq (WR.reg (WQ.runS [] 1 _ _ _ _ rfl ?_))
 refine WQ.callH rfl rfl rfl rfl rfl (letter_spec c _) .base rfl ?_
 unfold partB
 cases letterB c
 ·rw [Bool.false_or]
  refine WQ.runS [] 2 _ _ _ _ rfl ?_
  refine WQ.callH rfl rfl rfl rfl rfl (digit_spec c _) .base rfl (WQ.runS [] 1000 _ _ _ _ rfl (WQ.nilS ?_))
  refine WR.ret ⟨rfl, rfl, ⟨_, rfl, VLe.refl _⟩, fun b _ => rfl⟩
 ·rw [Bool.true_or]
  refine WQ.runS [] 1000 _ _ _ _ rfl (WQ.nilS ?_)
  refine WR.ret ⟨rfl, rfl, ⟨_, rfl, VLe.refl _⟩, fun b _ => rfl⟩
theorem line_spec (c : Nat) (h : H) : SCall Go.Proofs.Tryd.prog [] 44 [.int .u8 c] none h (.ret (.bool (lineB c))) none h := by
 refine SCall.pure0 rfl ?_ (by exact ⟨trivial, trivial⟩) (by exact trivial) h
 refine SCall.listed (fn := Go.Proofs.Tryd.f44) (by kernel_rfl) res44 (by kernel_rfl) (by kernel_rfl) (Nat.le_refl _) rfl (trivial) trivial ?_
 unfold rc44
 repeat (first | refine WR.seq ?_ | refine WR.block ?_ | refine WR.scope ?_ | refine WR.skip ?_ | refine WR.exit ?_ | refine WR.condT rfl ?_ | refine WR.condF rfl ?_ | refine WR.reg (WQ.runS [] 1000 _ _ _ _ rfl ?_) | refine WQ.nilS ?_ | refine WR.dreg hmix (DW.runS [] 1000 _ _ _ _ _ _ rfl ?_))
 refine WR.ret ⟨rfl, rfl, ⟨_, rfl, VLe.refl _⟩, fun b _ => rfl⟩
theorem quote_spec (c : Nat) (h : H) : SCall Go.Proofs.Tryd.prog [] 62 [.int .u8 c] none h (.ret (.bool (quoteB c))) none h := by
 refine SCall.pure0 rfl ?_ (by exact ⟨trivial, trivial⟩) (by exact trivial) h
 refine SCall.listed (fn := Go.Proofs.Tryd.f62) (by kernel_rfl) res62 (by kernel_rfl) (by kernel_rfl) (Nat.le_refl _) rfl (trivial) trivial ?_
 unfold rc62
 refine WR.seq (WR.reg (WQ.runS [] 1000 _ _ _ _ rfl (WQ.nilS ?_)))
 refine WR.seq (WR.reg (WQ.runS [] 2 _ _ _ _ rfl ?_))
 unfold quoteB
 cases decide ((c : Int) ≥ 32)
 ·rw [Bool.false_and, Bool.false_and]
  refine WQ.runS [] 1000 _ _ _ _ rfl (WQ.nilS ?_)
  refine WR.ret ⟨rfl, rfl, ⟨_, rfl, VLe.refl _⟩, fun b _ => rfl⟩
 ·rw [Bool.true_and]
  refine WQ.runS [] 3 _ _ _ _ rfl ?_
  cases decide ((c : Int) ≤ 126)
  ·rw [Bool.false_and]
   refine WQ.runS [] 1000 _ _ _ _ rfl (WQ.nilS ?_)
   refine WR.ret ⟨rfl, rfl, ⟨_, rfl, VLe.refl _⟩, fun b _ => rfl⟩
  ·rw [Bool.true_and]
   refine WQ.runS [] 1000 _ _ _ _ rfl (WQ.nilS ?_)
   refine WR.ret ⟨rfl, rfl, ⟨_, rfl, VLe.refl _⟩, fun b _ => rfl⟩
theorem ib_fn : ∃ fn, (Go.Proofs.Tryd.prog).funcs[69]? = some fn ∧ fn.body = none ∧ fn.name = "internal/bytealg.IndexByteString" ∧ Extern.findNext fn = none ∧ Extern.find fn = some Extern.BytealgIndexByte.indexByte :=
 ⟨Go.Proofs.Tryd.f69, by kernel_rfl, by kernel_rfl, by kernel_rfl, by kernel_rfl, by kernel_rfl⟩
theorem ibs_spec (bs : List Nat) (c : Nat) (hc : c < 256) (h : H) : SCall Go.Proofs.Tryd.prog [] 60 [.str bs, .int .u8 c] none h (.ret (.int .i64 (ibV c bs))) none h := by
 refine SCall.pure0 rfl ?_ (by exact ⟨trivial, trivial, trivial⟩) (by exact trivial) h
 refine SCall.listed (fn := Go.Proofs.Tryd.f60) (by kernel_rfl) res60 (by kernel_rfl) (by kernel_rfl) (Nat.le_refl _) rfl (trivial) trivial ?_
 unfold rc60
 obtain ⟨fn, h1, h2, h3, h4, h5⟩ := ib_fn
 refine WR.seq (WR.reg (WQ.runS [] 1000 _ _ _ _ rfl (WQ.nilS ?_)))
 refine WR.seq (WR.reg (WQ.runS [] 2 _ _ _ _ rfl ?_))
 refine WQ.doesS rfl (ib_doesR h1 h2 h3 h4 h5 rfl rfl hc) rfl (WQ.runS [] 1000 _ _ _ _ rfl (WQ.nilS ?_))
 refine WR.ret ⟨rfl, rfl, ⟨_, rfl, VLe.refl _⟩, fun b _ => rfl⟩
theorem ib_spec (bs : List Nat) (c : Nat) (hc : c < 256) (h : H) : SCall Go.Proofs.Tryd.prog [] 42 [.str bs, .int .u8 c] none h (.ret (.int .i64 (ibV c bs))) none h := by
 refine SCall.pure0 rfl ?_ (by exact ⟨trivial, trivial, trivial⟩) (by exact trivial) h
 refine SCall.listed (fn := Go.Proofs.Tryd.f42) (by kernel_rfl) res42 (by kernel_rfl) (by kernel_rfl) (Nat.le_refl _) rfl (trivial) trivial ?_
 unfold rc42
 refine WR.seq (WR.reg (WQ.runS [] 1000 _ _ _ _ rfl (WQ.nilS ?_)))
 refine WR.seq (WR.reg (WQ.runS [] 2 _ _ _ _ rfl ?_))
 refine WQ.callH rfl rfl rfl rfl rfl (ibs_spec bs c hc _) .base rfl (WQ.runS [] 1000 _ _ _ _ rfl (WQ.nilS ?_))
 refine WR.ret ⟨rfl, rfl, ⟨_, rfl, VLe.refl _⟩, fun b _ => rfl⟩
def blankB (c : Nat) : Bool := decide (ibV c [32, 9, 10, 13] ≥ 0)
theorem blank_spec (c : Nat) (hc : c < 256) (h : H) : SCall Go.Proofs.Tryd.prog [] 41 [.int .u8 c] none h (.ret (.bool (blankB c))) none h := by
 refine SCall.pure0 rfl ?_ (by exact ⟨trivial, trivial⟩) (by exact trivial) h
 refine SCall.listed (fn := Go.Proofs.Tryd.f41) (by kernel_rfl) res41 (by kernel_rfl) (by kernel_rfl) (Nat.le_refl _) rfl (trivial) trivial ?_
 unfold rc41
 refine WR.seq (WR.reg (WQ.runS [] 1000 _ _ _ _ rfl (WQ.nilS ?_)))
 refine WR.seq (WR.reg (WQ.runS [] 1 _ _ _ _ rfl ?_))
 refine WQ.callH rfl rfl rfl rfl rfl (ib_spec [32, 9, 10, 13] c hc _) .base rfl (WQ.runS [] 1000 _ _ _ _ rfl (WQ.nilS ?_))
 refine WR.ret ⟨rfl, rfl, ⟨_, rfl, VLe.refl _⟩, fun b _ => rfl⟩
def pfxB (s p : List Nat) : Bool := decide (p.length ≤ s.length) && decide (s.take p.length = p)
theorem pfx2_spec (s p : List Nat) (h : H) : SCall Go.Proofs.Tryd.prog [] 61 [.str s, .str p] none h (.ret (.bool (pfxB s p))) none h := by
 refine SCall.pure0 rfl ?_ (by exact ⟨trivial, trivial, trivial⟩) (by exact trivial) h
 refine SCall.listed (fn := Go.Proofs.Tryd.f61) (by kernel_rfl) res61 (by kernel_rfl) (by kernel_rfl) (Nat.le_refl _) rfl (trivial) trivial ?_
 unfold rc61
 refine WR.seq (WR.reg (WQ.runS [] 1000 _ _ _ _ rfl (WQ.nilS ?_)))
 refine WR.seq (WR.reg (WQ.runS [] 5 _ _ _ _ rfl ?_))
 unfold pfxB
 by_cases hl : p.length ≤ s.length
 ·rw [show decide ((s.length : Int) ≥ (p.length : Int)) = true from decide_eq_true (by omega), decide_eq_true hl, Bool.true_and]
  refine WQ.runS [] 4 _ _ _ _ rfl ?_
  refine WQ.lightS rfl rfl rfl (slc_str0 rfl rfl hl) rfl (WQ.runS [] 1000 _ _ _ _ rfl (WQ.nilS ?_))
  refine WR.ret ⟨rfl, rfl, ⟨_, rfl, VLe.refl _⟩, fun b _ => rfl⟩
 ·rw [show decide ((s.length : Int) ≥ (p.length : Int)) = false from decide_eq_false (by omega), decide_eq_false hl, Bool.false_and]
  refine WQ.runS [] 1000 _ _ _ _ rfl (WQ.nilS ?_)
  refine WR.ret ⟨rfl, rfl, ⟨_, rfl, VLe.refl _⟩, fun b _ => rfl⟩
theorem pfx_spec (s p : List Nat) (h : H) : SCall Go.Proofs.Tryd.prog [] 43 [.str s, .str p] none h (.ret (.bool (pfxB s p))) none h := by
 refine SCall.pure0 rfl ?_ (by exact ⟨trivial, trivial, trivial⟩) (by exact trivial) h
 refine SCall.listed (fn := Go.Proofs.Tryd.f43) (by kernel_rfl) res43 (by kernel_rfl) (by kernel_rfl) (Nat.le_refl _) rfl (trivial) trivial ?_
 unfold rc43
 refine WR.seq (WR.reg (WQ.runS [] 1000 _ _ _ _ rfl (WQ.nilS ?_)))
 refine WR.seq (WR.reg (WQ.runS [] 2 _ _ _ _ rfl ?_))
 refine WQ.callH rfl rfl rfl rfl rfl (pfx2_spec s p _) .base rfl (WQ.runS [] 1000 _ _ _ _ rfl (WQ.nilS ?_))
 refine WR.ret ⟨rfl, rfl, ⟨_, rfl, VLe.refl _⟩, fun b _ => rfl⟩
end Go.VM
end
section
/- Tokens: runs of bytes, layout. -/
set_option maxRecDepth 100000
set_option linter.unusedVariables false
set_option linter.unusedSimpArgs false
namespace Go.VM
open Go.RowKit
def big : Nat := 4611686018427387904
theorem nextB {i : Nat} (h : i < big) : IntKind.i64.wrap ((i : Int) + 1) = ((i + 1 : Nat) : Int) := by
 unfold big at h
 rw [wrap64 (by omega) (by omega)]; rfl
theorem idxs_at {P : Program} {gl : List Nat} {nt : Nat} {tm : TM} {h : H} {x i : RX} {k : IntKind} {s : List Nat} {n b : Nat} (hx : rv gl tm x = some (.str s)) (hi : rv gl tm i = some (.int k n)) (hg : s[n]? = some b) : LightR P gl nt tm h (some (.idxs x i)) (.v (.int .u8 b)) := by
 refine lightX_sound ?_
 simp only [lightX, rl, hx, hi, Option.bind_some, asIdx]
 have : ¬ ((n : Int) < 0) := by omega
 simp [this, hg]
theorem slc_str1 {P : Program} {gl : List Nat} {nt : Nat} {tm : TM} {h : H} {x lo : RX} {k : IntKind} {s : List Nat} {a : Nat} (hx : rv gl tm x = some (.str s)) (hlo : rv gl tm lo = some (.int k a)) (h1 : a ≤ s.length) :
  LightR P gl nt tm h (some (.slc .str x (some lo) none none)) (.v (.str (s.drop a))) := by
 refine lightX_sound ?_
 have e1 : rvo gl tm (some lo) = some (some (.int k a)) := by simp [rvo, hlo]
 have e3 : rvo gl tm none = some none := rfl
 simp only [lightX, rl, hx, e1, e3]
 simp [aslice, nat?, asIdx, h1, List.take_of_length_le]
def cntF (p : Nat → Bool) : List Nat → Nat
 | [] => 0
 | c :: r => match p c with
  | true => cntF p r + 1
  | false => 0
theorem cntF_le (p : Nat → Bool) : ∀ l : List Nat, cntF p l ≤ l.length
 | [] => Nat.le_refl _
 | c :: r => by
  simp only [cntF]
  split
  ·have := cntF_le p r; simp; omega
  ·simp
def whTm (s : List Nat) (f i : Nat) : TM := [(0, .v (.str s)), (1, .v (.int .i64 i)), (2, .v (.fn (.func f) [] []))]
theorem while_loop {QN : S → Prop} {QX : X → S → Prop} (s : List Nat) (f : Nat) (p : Nat → Bool) (hf : ∀ c ∈ s, ∀ h : H, SCall Go.Proofs.Tryd.prog [] f [.int .u8 c] none h (.ret (.bool (p c))) none h) (hl : s.length < big) (e : Nat)
  (h0 : ∀ tm, TellT tm [] (whTm s f e) → QX (.exit 0) (SL.toS ⟨tm, [], none, 1000, [], []⟩)) : ∀ (m i : Nat), i + m = s.length → e = i + cntF p (s.drop i) →
  WLr Go.Proofs.Tryd.prog [] ⟨Go.Proofs.Tryd.f40.ntmps, none, 40⟩ rc40_L1 (SL.toS ⟨whTm s f i, [], none, 1000, [], []⟩) QN QX := by
 intro m
 induction m with
 | zero =>
  intro i hi he
  rw [List.drop_eq_nil_iff.2 (by omega)] at he
  have he : e = i := he
  subst he
  unfold rc40_L1
  refine WLr.of ?_
  refine WR.seq (WR.seq (WR.reg (WQ.runS [] 4 _ _ _ _ rfl ?_)))
  rw [show decide ((e : Int) < (s.length : Int)) = false from decide_eq_false (by omega)]
  refine WQ.runS [] 1000 _ _ _ _ rfl (WQ.nilS (WR.condF rfl (WR.exit (h0 _ ?_))))
  repeat (first | exact .nil | refine .cons rfl (.v (VLe.refl _)) ?_)
 | succ m ih =>
  intro i hi he
  obtain ⟨c, hc, hd⟩ : ∃ c, s[i]? = some c ∧ s.drop i = c :: s.drop (i + 1) := ⟨s[i], List.getElem?_eq_getElem (by omega), List.drop_eq_getElem_cons (by omega)⟩
  have hfc := hf c (List.mem_of_getElem? hc)
  rw [hd, cntF] at he
  unfold rc40_L1
  refine WLr.of ?_
  refine WR.seq (WR.seq (WR.reg (WQ.runS [] 4 _ _ _ _ rfl ?_)))
  rw [show decide ((i : Int) < (s.length : Int)) = true from decide_eq_true (by omega)]
  refine WQ.runS [] 4 _ _ _ _ rfl ?_
  refine WQ.lightS rfl rfl rfl (idxs_at rfl rfl hc) rfl ?_
  refine WQ.callH rfl rfl rfl rfl rfl (hfc _) .base rfl ?_
  cases hp : p c
  ·rw [hp] at he
   have he : e = i := he
   subst he
   refine WQ.runS [] 1000 _ _ _ _ rfl (WQ.nilS (WR.condF rfl (WR.exit (h0 _ ?_))))
   repeat (first | exact .nil | refine .cons rfl (.v (VLe.refl _)) ?_)
  ·rw [hp] at he
   have he : e = i + 1 + cntF p (s.drop (i + 1)) := by simp only at he; omega
   refine WQ.runS [] 1000 _ _ _ _ rfl (WQ.nilS (WR.condT rfl (WR.skip ?_)))
   repeat (first | refine WR.seq ?_ | refine WR.block ?_ | refine WR.scope ?_ | refine WR.skip ?_ | refine WR.exit ?_ | refine WR.condT rfl ?_ | refine WR.condF rfl ?_ | refine WR.reg (WQ.runS [] 1000 _ _ _ _ rfl ?_) | refine WQ.nilS ?_ | refine WR.dreg hmix (DW.runS [] 1000 _ _ _ _ _ _ rfl ?_))
   rw [nextB (by unfold big at hl ⊢; omega)]
   refine WIr.again (WLr.weak ?_ (ih (i + 1) (by omega) he))
   refine SW.tellR ?_ ?_
   ·repeat (first | exact .nil | refine .cons rfl (.v (VLe.refl _)) ?_ | refine .cons rfl (.l _ _ rfl) ?_ | refine .cons rfl (.v (VLe.unk _ _)) ?_)
   ·repeat (first | exact .nil | refine .cons rfl (.inl rfl) ?_)
theorem while_spec (s : List Nat) (f : Nat) (p : Nat → Bool) (hf : ∀ c ∈ s, ∀ h : H, SCall Go.Proofs.Tryd.prog [] f [.int .u8 c] none h (.ret (.bool (p c))) none h) (hl : s.length < big) (i : Nat) (hi : i ≤ s.length) (h : H) :
  SCall Go.Proofs.Tryd.prog [] 40 [.str s, .int .i64 i, .fn (.func f) [] []] none h (.ret (.int .i64 (i + cntF p (s.drop i) : Nat))) none h := by
 refine SCall.pure0 rfl ?_ (by exact ⟨trivial, trivial, ⟨trivial, trivial, trivial⟩, trivial⟩) (by exact trivial) h
 refine SCall.listed (fn := Go.Proofs.Tryd.f40) (by kernel_rfl) res40 (by kernel_rfl) (by kernel_rfl) (Nat.le_refl _) rfl (trivial) trivial ?_
 unfold rc40
 repeat (first | refine WR.seq ?_ | refine WR.block ?_ | refine WR.scope ?_ | refine WR.skip ?_ | refine WR.exit ?_ | refine WR.condT rfl ?_ | refine WR.condF rfl ?_ | refine WR.reg (WQ.runS [] 1000 _ _ _ _ rfl ?_) | refine WQ.nilS ?_ | refine WR.dreg hmix (DW.runS [] 1000 _ _ _ _ _ _ rfl ?_))
 refine WR.loop (WLr.weak (s := SL.toS ⟨whTm s f i, [], none, 1000, [], []⟩) ?_ (while_loop s f p hf hl _ (fun tm ht => ?_) (s.length - i) i (by omega) rfl))
 ·refine SW.tellR ?_ ?_
  ·repeat (first | exact .nil | refine .cons rfl (.v (VLe.refl _)) ?_ | refine .cons rfl (.l _ _ rfl) ?_ | refine .cons rfl (.v (VLe.unk _ _)) ?_)
  ·repeat (first | exact .nil | refine .cons rfl (.inl rfl) ?_)
 ·refine WR.weak (SW.tellR ht .nil) ?_
  unfold rc40_J1
  repeat (first | refine WR.seq ?_ | refine WR.block ?_ | refine WR.scope ?_ | refine WR.skip ?_ | refine WR.exit ?_ | refine WR.condT rfl ?_ | refine WR.condF rfl ?_ | refine WR.reg (WQ.runS [] 1000 _ _ _ _ rfl ?_) | refine WQ.nilS ?_ | refine WR.dreg hmix (DW.runS [] 1000 _ _ _ _ _ _ rfl ?_))
  refine WR.ret ⟨rfl, rfl, ⟨_, rfl, VLe.refl _⟩, fun b _ => rfl⟩
def skipF (s : List Nat) : Nat → Nat → Nat
 | 0, i => i
 | n + 1, i => if pfxB (s.drop (i + cntF blankB (s.drop i))) [47, 47] = true then skipF s n (i + cntF blankB (s.drop i) + cntF lineB (s.drop (i + cntF blankB (s.drop i)))) else i + cntF blankB (s.drop i)
theorem pfx_len {s p : List Nat} (h : pfxB s p = true) : p.length ≤ s.length := by
 unfold pfxB at h
 simp only [Bool.and_eq_true, decide_eq_true_eq] at h
 exact h.1
theorem pfx_cnt {s : List Nat} (h : pfxB s [47, 47] = true) : 2 ≤ cntF lineB s := by
 unfold pfxB at h
 simp only [Bool.and_eq_true, decide_eq_true_eq] at h
 obtain ⟨h1, h2⟩ := h
 cases s with
 | nil => simp at h1
 | cons a s =>
  cases s with
  | nil => simp at h1
  | cons b s =>
   simp at h2
   obtain ⟨rfl, rfl⟩ := h2
   show (match lineB 47 with | true => (match lineB 47 with | true => cntF lineB s + 1 | false => 0) + 1 | false => 0) ≥ 2
   rw [show lineB 47 = true from rfl]
   show cntF lineB s + 1 + 1 ≥ 2
   omega
theorem skip_loop {QN : S → Prop} {QX : X → S → Prop} (s : List Nat) (h8 : ∀ c ∈ s, c < 256) (hl : s.length < big) (e : Nat)
  (h1 : ∀ st, RetS Go.Proofs.Tryd.prog Go.Proofs.Tryd.f30 (.int .i64 e) 1000 [] st → QX .ret st) : ∀ (n i : Nat), i ≤ s.length → s.length < i + n → e = skipF s n i →
  WLr Go.Proofs.Tryd.prog [] ⟨Go.Proofs.Tryd.f30.ntmps, none, 30⟩ rc30_L1 (SL.toS ⟨[(0, .v (.str s)), (1, .v (.int .i64 i))], [], none, 1000, [], []⟩) QN QX := by
 intro n
 induction n with
 | zero => intro i hi hn; omega
 | succ n ih =>
  intro i hi hn he
  have w1 := while_spec s 41 blankB (fun c hc h => blank_spec c (h8 c hc) h) hl i hi
  have c1 := cntF_le blankB (s.drop i)
  rw [List.length_drop] at c1
  rw [skipF] at he
  generalize hj : i + cntF blankB (s.drop i) = j at w1 he
  have hjl : j ≤ s.length := by omega
  have hp := pfx_spec (s.drop j) [47, 47]
  unfold rc30_L1
  refine WLr.of ?_
  refine WR.block ?_
  refine WR.seq (WR.reg (WQ.runS [] 2 _ _ _ _ rfl ?_))
  refine WQ.callH rfl rfl rfl rfl rfl (w1 _) .base rfl (WQ.runS [] 1000 _ _ _ _ rfl (WQ.nilS ?_))
  refine WR.seq (WR.seq (WR.reg (WQ.runS [] 2 _ _ _ _ rfl ?_)))
  refine WQ.lightS rfl rfl rfl (slc_str1 rfl rfl hjl) rfl ?_
  refine WQ.callH rfl rfl rfl rfl rfl (hp _) .base rfl ?_
  cases hb : pfxB (s.drop j) [47, 47]
  ·rw [if_neg (by rw [hb]; decide)] at he
   subst he
   refine WQ.runS [] 1000 _ _ _ _ rfl (WQ.nilS (WR.condT rfl ?_))
   refine WR.seq (WR.reg (WQ.runS [] 1000 _ _ _ _ rfl (WQ.nilS ?_)))
   exact WR.ret (h1 _ ⟨rfl, rfl, ⟨_, rfl, VLe.refl _⟩, fun _ _ => rfl⟩)
  ·rw [if_pos hb] at he
   have w2 := while_spec s 44 lineB (fun c hc h => line_spec c h) hl j hjl
   have c2 := cntF_le lineB (s.drop j)
   have c3 := pfx_cnt hb
   rw [List.length_drop] at c2
   refine WQ.runS [] 1000 _ _ _ _ rfl (WQ.nilS (WR.condF rfl (WR.skip ?_)))
   refine WR.reg (WQ.runS [] 2 _ _ _ _ rfl ?_)
   refine WQ.callH rfl rfl rfl rfl rfl (w2 _) .base rfl (WQ.runS [] 1000 _ _ _ _ rfl (WQ.nilS ?_))
   refine WIr.again (WLr.weak ?_ (ih _ (by omega) (by omega) he))
   refine SW.tellR ?_ ?_
   ·repeat (first | exact .nil | refine .cons rfl (.v (VLe.refl _)) ?_ | refine .cons rfl (.l _ _ rfl) ?_ | refine .cons rfl (.v (VLe.unk _ _)) ?_)
   ·repeat (first | exact .nil | refine .cons rfl (.inl rfl) ?_)
theorem skip_spec (s : List Nat) (h8 : ∀ c ∈ s, c < 256) (hl : s.length < big) (i : Nat) (hi : i ≤ s.length) (h : H) :
  SCall Go.Proofs.Tryd.prog [] 30 [.str s, .int .i64 i] none h (.ret (.int .i64 (skipF s (s.length + 1) i : Nat))) none h := by
 refine SCall.pure0 rfl ?_ (by exact ⟨trivial, trivial, trivial⟩) (by exact trivial) h
 refine SCall.listed (fn := Go.Proofs.Tryd.f30) (by kernel_rfl) res30 (by kernel_rfl) (by kernel_rfl) (Nat.le_refl _) rfl (trivial) trivial ?_
 unfold rc30
 repeat (first | refine WR.seq ?_ | refine WR.block ?_ | refine WR.scope ?_ | refine WR.skip ?_ | refine WR.exit ?_ | refine WR.condT rfl ?_ | refine WR.condF rfl ?_ | refine WR.reg (WQ.runS [] 1000 _ _ _ _ rfl ?_) | refine WQ.nilS ?_ | refine WR.dreg hmix (DW.runS [] 1000 _ _ _ _ _ _ rfl ?_))
 refine WR.loop (WLr.weak (s := SL.toS ⟨[(0, .v (.str s)), (1, .v (.int .i64 i))], [], none, 1000, [], []⟩) ?_ (skip_loop s h8 hl _ (fun st q => q) (s.length + 1) i hi (by omega) rfl))
 refine SW.tellR ?_ ?_
 ·repeat (first | exact .nil | refine .cons rfl (.v (VLe.refl _)) ?_ | refine .cons rfl (.l _ _ rfl) ?_ | refine .cons rfl (.v (VLe.unk _ _)) ?_)
 ·repeat (first | exact .nil | refine .cons rfl (.inl rfl) ?_)
end Go.VM
end
section
/- Tokens: one. -/
set_option maxRecDepth 100000
set_option linter.unusedVariables false
set_option linter.unusedSimpArgs false
namespace Go.VM
open Go.RowKit
structure Tk where
 kind : Nat
 a : Nat
 e : Nat
 text : List Nat
def encTk (t : Tk) : List V := [.int .i64 t.kind, .int .i64 t.a, .int .i64 t.e, .str t.text]
def zTk : Tk := ⟨0, 0, 0, []⟩
def wordsL : List (List Nat) := [[112, 97, 99, 107, 97, 103, 101], [105, 109, 112, 111, 114, 116], [116, 121, 112, 101], [115, 116, 114, 117, 99, 116], [105, 110, 116, 101, 114, 102, 97, 99, 101], [102, 117, 110, 99], [108, 101, 116], [105, 102], [101, 108, 115, 101], [102, 111, 114], [114, 101, 116, 117, 114, 110], [110, 101, 119], [116, 114, 117, 101], [102, 97, 108, 115, 101], [105, 110, 116], [98, 111, 111, 108], [116, 101, 120, 116]]
def wEnt (w : List Nat) : V × V := (.str w, .bool true)
def wMap : List (V × V) := wordsL.map wEnt
def memB (s : List Nat) : List (List Nat) → Bool
 | [] => false
 | w :: r => match decide (s = w) with
  | true => true
  | false => memB s r
def wordB (s : List Nat) : Bool := memB s wordsL
theorem find_mem (s : List Nat) : ∀ l : List (List Nat), findV (.str s) (l.map wEnt) = some (match memB s l with | true => some (.bool true) | false => none)
 | [] => rfl
 | w :: r => by
  show (match keyEq (.str s) (.str w) with | some true => some (some (V.bool true)) | some false => findV (.str s) (r.map wEnt) | none => none) = _
  rw [show keyEq (.str s) (.str w) = some (decide (s = w)) from rfl]
  simp only [memB]
  cases decide (s = w)
  ·exact find_mem s r
  ·rfl
def qEnd (s : List Nat) (i : Nat) : Nat := i + 1 + cntF quoteB (s.drop (i + 1))
def qBad (s : List Nat) (i : Nat) : Bool := (match s[qEnd s i]? with | none => true | some c => !decide (c = 34)) || decide (cntF quoteB (s.drop (i + 1)) > 200)
def quotF (s : List Nat) (i : Nat) : Tk × Nat := match qBad s i with
 | true => (zTk, 3)
 | false => (⟨3, i, qEnd s i + 1, []⟩, 0)
def encTC (r : Tk × Nat) : V := .tup [.agg (encTk r.1), .int .i64 r.2]
theorem encTC_in {D : Nat → Prop} (r : Tk × Nat) : (encTC r).In D := ⟨⟨trivial, trivial, trivial, trivial, trivial⟩, trivial, trivial⟩
theorem subB {a b : Nat} (h : b ≤ a) (hb : a < big) : IntKind.i64.wrap ((a : Int) - (b : Int)) = ((a - b : Nat) : Int) := by
 unfold big at hb
 rw [wrap64 (by omega) (by omega)]; omega
theorem quoted_spec (s : List Nat) (hl : s.length < big) (i : Nat) (hi : i < s.length) (h : H) :
  SCall Go.Proofs.Tryd.prog [] 48 [.str s, .int .i64 i] none h (.ret (encTC (quotF s i))) none h := by
 refine SCall.pure0 rfl ?_ (by exact ⟨trivial, trivial, trivial⟩) (by exact encTC_in _) h
 refine SCall.listed (fn := Go.Proofs.Tryd.f48) (by kernel_rfl) res48 (by kernel_rfl) (by kernel_rfl) (Nat.le_refl _) rfl (trivial) (by exact encTC_in _) ?_
 unfold rc48
 have w1 := while_spec s 62 quoteB (fun c hc h => quote_spec c h) hl (i + 1) (by omega)
 have c1 := cntF_le quoteB (s.drop (i + 1))
 rw [List.length_drop] at c1
 have hq : quotF s i = match qBad s i with
  | true => (zTk, 3)
  | false => (⟨3, i, qEnd s i + 1, []⟩, 0) := rfl
 have hb : qBad s i = ((match s[qEnd s i]? with | none => true | some c => !decide (c = 34)) || decide (cntF quoteB (s.drop (i + 1)) > 200)) := rfl
 unfold qEnd at hb hq
 generalize hn : cntF quoteB (s.drop (i + 1)) = n at w1 c1 hb hq
 refine WR.seq (WR.reg (WQ.runS [] 1000 _ _ _ _ rfl (WQ.nilS ?_)))
 refine WR.seq (WR.reg (WQ.runS [] 3 _ _ _ _ rfl ?_))
 rw [nextB (by unfold big at hl ⊢; omega)]
 refine WQ.callH rfl rfl rfl rfl rfl (w1 _) .base rfl (WQ.runS [] 1000 _ _ _ _ rfl (WQ.nilS ?_))
 refine WR.seq (WR.seq (WR.reg (WQ.runS [] 4 _ _ _ _ rfl ?_)))
 by_cases he : i + 1 + n = s.length
 ·rw [show decide (((i + 1 + n : Nat) : Int) = (s.length : Int)) = true from decide_eq_true (by omega)]
  rw [he, List.getElem?_eq_none (Nat.le_refl _), Bool.true_or] at hb
  rw [hq, hb]
  refine WQ.runS [] 1000 _ _ _ _ rfl (WQ.nilS (WR.condT rfl ?_))
  repeat (first | refine WR.seq ?_ | refine WR.block ?_ | refine WR.scope ?_ | refine WR.skip ?_ | refine WR.exit ?_ | refine WR.condT rfl ?_ | refine WR.condF rfl ?_ | refine WR.reg (WQ.runS [] 1000 _ _ _ _ rfl ?_) | refine WQ.nilS ?_ | refine WR.dreg hmix (DW.runS [] 1000 _ _ _ _ _ _ rfl ?_))
  refine WR.ret ⟨rfl, rfl, ⟨_, rfl, VLe.refl _⟩, fun b _ => rfl⟩
 ·rw [show decide (((i + 1 + n : Nat) : Int) = (s.length : Int)) = false from decide_eq_false (by omega)]
  obtain ⟨c, hc⟩ : ∃ c, s[i + 1 + n]? = some c := ⟨_, List.getElem?_eq_getElem (by omega)⟩
  rw [hc] at hb
  dsimp only at hb
  refine WQ.runS [] 3 _ _ _ _ rfl ?_
  refine WQ.lightS rfl rfl rfl (idxs_at rfl rfl hc) rfl (WQ.runS [] 1 _ _ _ _ rfl ?_)
  by_cases h34 : c = 34
  ·rw [show (!decide ((c : Int) = 34)) = false from by simp; omega]
   rw [show (!decide (c = 34)) = false from by simp [h34], Bool.false_or] at hb
   refine WQ.runS [] 5 _ _ _ _ rfl ?_
   rw [subB (by omega) (by omega)]
   refine WQ.runS [] 1 _ _ _ _ rfl ?_
   rw [show IntKind.i64.wrap (((i + 1 + n - i : Nat) : Int) - 1) = (n : Int) from by
    unfold big at hl
    rw [wrap64 (by omega) (by omega)]; omega]
   refine WQ.runS [] 1 _ _ _ _ rfl ?_
   by_cases h200 : n > 200
   ·rw [show decide ((n : Int) > 200) = true from decide_eq_true (by omega)]
    rw [decide_eq_true h200] at hb
    rw [hq, hb]
    refine WQ.runS [] 1000 _ _ _ _ rfl (WQ.nilS (WR.condT rfl ?_))
    repeat (first | refine WR.seq ?_ | refine WR.block ?_ | refine WR.scope ?_ | refine WR.skip ?_ | refine WR.exit ?_ | refine WR.condT rfl ?_ | refine WR.condF rfl ?_ | refine WR.reg (WQ.runS [] 1000 _ _ _ _ rfl ?_) | refine WQ.nilS ?_ | refine WR.dreg hmix (DW.runS [] 1000 _ _ _ _ _ _ rfl ?_))
    refine WR.ret ⟨rfl, rfl, ⟨_, rfl, VLe.refl _⟩, fun b _ => rfl⟩
   ·rw [show decide ((n : Int) > 200) = false from decide_eq_false (by omega)]
    rw [decide_eq_false h200] at hb
    rw [hq, hb]
    refine WQ.runS [] 1000 _ _ _ _ rfl (WQ.nilS (WR.condF rfl (WR.skip ?_)))
    refine WR.seq (WR.reg (WQ.runS [] 3 _ _ _ _ rfl ?_))
    rw [nextB (by omega)]
    refine WQ.runS [] 1000 _ _ _ _ rfl (WQ.nilS ?_)
    refine WR.ret ⟨rfl, rfl, ⟨_, rfl, VLe.refl _⟩, fun b _ => rfl⟩
  ·rw [show (!decide ((c : Int) = 34)) = true from by simp; omega]
   rw [show (!decide (c = 34)) = true from by simp [h34], Bool.true_or] at hb
   rw [hq, hb]
   refine WQ.runS [] 1000 _ _ _ _ rfl (WQ.nilS (WR.condT rfl ?_))
   repeat (first | refine WR.seq ?_ | refine WR.block ?_ | refine WR.scope ?_ | refine WR.skip ?_ | refine WR.exit ?_ | refine WR.condT rfl ?_ | refine WR.condF rfl ?_ | refine WR.reg (WQ.runS [] 1000 _ _ _ _ rfl ?_) | refine WQ.nilS ?_ | refine WR.dreg hmix (DW.runS [] 1000 _ _ _ _ _ _ rfl ?_))
   refine WR.ret ⟨rfl, rfl, ⟨_, rfl, VLe.refl _⟩, fun b _ => rfl⟩
end Go.VM
end
section
/- Tokens: the one at a place. -/
set_option maxRecDepth 100000
set_option linter.unusedVariables false
set_option linter.unusedSimpArgs false
namespace Go.VM
open Go.RowKit
def symL : List Nat := [40, 41, 123, 125, 91, 93, 44, 59, 46, 61, 60, 43, 45, 42, 33]
def numBad (n c : Nat) : Bool := decide (n > 15) || (decide (c = 48) && decide (n > 1))
def tokF (s : List Nat) (i c : Nat) : Tk × Nat :=
 match letterB c with
 | true =>
  let n := cntF partB (s.drop i)
  (⟨match wordB ((s.drop i).take n) with | true => 5 | false => 1, i, i + n, []⟩, match decide (n > 40) with | true => 4 | false => 0)
 | false => match digitB c with
  | true =>
   let n := cntF digitB (s.drop i)
   (⟨2, i, i + n, []⟩, match numBad n c with | true => 2 | false => 0)
  | false => match decide (c = 34) with
   | true => quotF s i
   | false => match pfxB (s.drop i) [61, 61] || pfxB (s.drop i) [38, 38] with
    | true => (⟨4, i, i + 2, []⟩, 0)
    | false => match decide (ibV c symL < 0) with
     | true => (⟨4, i, i + 1, []⟩, 1)
     | false => (⟨4, i, i + 1, []⟩, 0)
def wOl : OL := [(1000, .map wMap)]
theorem wEnt_in {D : Nat → Prop} : ∀ l : List (List Nat), Ines D (l.map wEnt)
 | [] => trivial
 | _ :: l => ⟨⟨trivial, trivial⟩, wEnt_in l⟩
theorem wMap_in {D : Nat → Prop} : olIn D wOl := ⟨wEnt_in wordsL, trivial⟩
def tkLc (k i e : Nat) : LM := [(8, [.int .i64 k, .int .i64 i, .int .i64 e, .str []]), (6, [.int .i64 0, .int .i64 0, .int .i64 0, .str []])]
def tkTm (s : List Nat) (i c : Nat) : TM := [(0, .v (.str s)), (1, .v (.int .i64 i)), (2, .v (.map 1000)), (6, .l 6 0), (8, .l 8 0), (9, .v (.int .u8 c))]
theorem lk_word {gl : List Nat} {nt nx : Nat} {tm : TM} {lc : LM} {x k : RX} {s : List Nat} (hx : rv gl tm x = some (.map 1000)) (hk : rv gl tm k = some (.str s)) : LightR Go.Proofs.Tryd.prog gl nt tm ⟨nx, og wOl, lc⟩ (some (.lk x k false (.bool false) .str)) (.v (.bool (wordB s))) := by
 refine lightX_sound ?_
 simp only [lightX, rl, hx, hk]
 show (match findV (.str s) (wordsL.map wEnt) with | some (some v) => some (TV.v (okTup false v true)) | some none => some (TV.v (okTup false (.bool false) false)) | none => none) = _
 rw [find_mem]
 show _ = some (TV.v (.bool (memB s wordsL)))
 cases memB s wordsL <;> rfl
theorem tokF_letter {s : List Nat} {i c : Nat} (h : letterB c = true) : tokF s i c = (⟨match wordB ((s.drop i).take (cntF partB (s.drop i))) with | true => 5 | false => 1, i, i + cntF partB (s.drop i), []⟩, match decide (cntF partB (s.drop i) > 40) with | true => 4 | false => 0) := by
 unfold tokF; rw [h]
theorem tokF_digit {s : List Nat} {i c : Nat} (h : letterB c = false) (h2 : digitB c = true) : tokF s i c = (⟨2, i, i + cntF digitB (s.drop i), []⟩, match numBad (cntF digitB (s.drop i)) c with | true => 2 | false => 0) := by
 unfold tokF; rw [h, h2]
theorem tokF_quot {s : List Nat} {i c : Nat} (h : letterB c = false) (h2 : digitB c = false) (h3 : c = 34) : tokF s i c = quotF s i := by
 unfold tokF; rw [h, h2, decide_eq_true h3]
theorem tokF_two {s : List Nat} {i c : Nat} (h : letterB c = false) (h2 : digitB c = false) (h3 : ¬ c = 34) (h4 : (pfxB (s.drop i) [61, 61] || pfxB (s.drop i) [38, 38]) = true) : tokF s i c = (⟨4, i, i + 2, []⟩, 0) := by
 unfold tokF; rw [h, h2, decide_eq_false h3, h4]
theorem tokF_one {s : List Nat} {i c : Nat} (h : letterB c = false) (h2 : digitB c = false) (h3 : ¬ c = 34) (h4 : (pfxB (s.drop i) [61, 61] || pfxB (s.drop i) [38, 38]) = false) : tokF s i c = (⟨4, i, i + 1, []⟩, match decide (ibV c symL < 0) with | true => 1 | false => 0) := by
 unfold tokF; rw [h, h2, decide_eq_false h3, h4]
 dsimp only
 cases decide (ibV c symL < 0) <;> rfl
theorem tokEnd {QN : S → Prop} {QX : X → S → Prop} {r : Tk × Nat} {s : List Nat} {c k i e : Nat} (hr : r = (⟨k, i, e, []⟩, 0)) (h1 : ∀ st, RetS Go.Proofs.Tryd.prog Go.Proofs.Tryd.f31 (encTC r) 1001 wOl st → QX .ret st) (tm : TM) (ht : TellT tm (tkLc k i e) (tkTm s i c)) :
  WR Go.Proofs.Tryd.prog [] ⟨Go.Proofs.Tryd.f31.ntmps, none, 31⟩ rc31_J2 (SL.toS ⟨tm, [], none, 1001, wOl, tkLc k i e⟩) QN QX := by
 subst hr
 refine WR.weak (SW.tellR ht (.cons rfl (.inl rfl) (.cons rfl (.inl rfl) .nil))) ?_
 unfold rc31_J2
 repeat (first | refine WR.seq ?_ | refine WR.block ?_ | refine WR.scope ?_ | refine WR.skip ?_ | refine WR.exit ?_ | refine WR.condT rfl ?_ | refine WR.condF rfl ?_ | refine WR.reg (WQ.runS [] 1000 _ _ _ _ rfl ?_) | refine WQ.nilS ?_ | refine WR.dreg hmix (DW.runS [] 1000 _ _ _ _ _ _ rfl ?_))
 exact WR.ret (h1 _ ⟨rfl, rfl, ⟨_, rfl, VLe.refl _⟩, fun _ _ => rfl⟩)
theorem token_core (s : List Nat) (h8 : ∀ c ∈ s, c < 256) (hl : s.length < big) (i c : Nat) (hc : s[i]? = some c) :
  SCall Go.Proofs.Tryd.prog [] 31 [.str s, .int .i64 i, .map 1000] none ⟨1001, og wOl, []⟩ (.ret (encTC (tokF s i c))) none ⟨1001, og wOl, []⟩ := by
 refine SCall.listed (fn := Go.Proofs.Tryd.f31) (by kernel_rfl) res31 (by kernel_rfl) (by kernel_rfl) (Nat.le_refl _) rfl (wMap_in) (by exact encTC_in _) ?_
 unfold rc31
 have hi : i < s.length := (List.getElem?_eq_some_iff.1 hc).1
 have hc8 := h8 c (List.mem_of_getElem? hc)
 refine WR.seq (WR.reg (WQ.runS [] 1000 _ _ _ _ rfl (WQ.nilS ?_)))
 refine WR.seq (WR.reg (WQ.runS [] 3 _ _ _ _ rfl ?_))
 rw [nextB (by omega)]
 refine WQ.runS [] 1000 _ _ _ _ rfl (WQ.nilS ?_)
 refine WR.seq (WR.seq (WR.reg (WQ.runS [] 2 _ _ _ _ rfl ?_)))
 refine WQ.lightS rfl rfl rfl (idxs_at rfl rfl hc) rfl (WQ.runS [] 1000 _ _ _ _ rfl (WQ.nilS ?_))
 refine WR.weak (s := SL.toS ⟨tkTm s i c, [], none, 1001, wOl, tkLc 4 i (i + 1)⟩) ?_ ?_
 ·refine SW.tellR ?_ ?_
  ·repeat (first | exact .nil | refine .cons rfl (.v (VLe.refl _)) ?_ | refine .cons rfl (.l _ _ rfl) ?_ | refine .cons rfl (.v (VLe.unk _ _)) ?_)
  ·repeat (first | exact .nil | refine .cons rfl (.inl rfl) ?_)
 refine WR.block (WR.seq (WR.reg (WQ.runS [] 1 _ _ _ _ rfl ?_)))
 refine WQ.callH rfl rfl rfl rfl rfl (letter_spec c _) .base rfl (WQ.runS [] 1000 _ _ _ _ rfl (WQ.nilS ?_))
 cases hL : letterB c with
 | true =>
  rw [tokF_letter hL]
  have w1 := while_spec s 46 partB (fun c hc h => part_spec c h) hl i (by omega)
  have c1 := cntF_le partB (s.drop i)
  rw [List.length_drop] at c1
  generalize cntF partB (s.drop i) = n at w1 c1 ⊢
  refine WR.condT rfl ?_
  refine WR.seq (WR.reg (WQ.runS [] 2 _ _ _ _ rfl ?_))
  refine WQ.callH rfl rfl rfl rfl rfl (w1 _) .base rfl (WQ.runS [] 1000 _ _ _ _ rfl (WQ.nilS ?_))
  refine WR.seq (WR.seq (WR.reg (WQ.runS [] 5 _ _ _ _ rfl ?_)))
  refine WQ.lightS rfl rfl rfl (slc_str rfl rfl rfl (by omega) (by omega)) rfl ?_
  rw [Nat.add_sub_cancel_left]
  refine WQ.lightS rfl rfl rfl (lk_word rfl rfl) rfl (WQ.nilS ?_)
  have fin : ∀ (k : Nat) (tm : TM), TellT tm (tkLc k i (i + n)) (tkTm s i c) → WR Go.Proofs.Tryd.prog [] ⟨Go.Proofs.Tryd.f31.ntmps, none, 31⟩ rc31_J1 (SL.toS ⟨tm, [], none, 1001, wOl, tkLc k i (i + n)⟩)
    (fun s1 => WR Go.Proofs.Tryd.prog [] ⟨Go.Proofs.Tryd.f31.ntmps, none, 31⟩ rc31_J2 s1 (RetS Go.Proofs.Tryd.prog Go.Proofs.Tryd.f31 (encTC (⟨k, i, i + n, []⟩, match decide (n > 40) with | true => 4 | false => 0)) 1001 wOl) (retX (RetS Go.Proofs.Tryd.prog Go.Proofs.Tryd.f31 (encTC (⟨k, i, i + n, []⟩, match decide (n > 40) with | true => 4 | false => 0)) 1001 wOl))) (blkX 0 (fun s1 => WR Go.Proofs.Tryd.prog [] ⟨Go.Proofs.Tryd.f31.ntmps, none, 31⟩ rc31_J2 s1 (RetS Go.Proofs.Tryd.prog Go.Proofs.Tryd.f31 (encTC (⟨k, i, i + n, []⟩, match decide (n > 40) with | true => 4 | false => 0)) 1001 wOl) (retX (RetS Go.Proofs.Tryd.prog Go.Proofs.Tryd.f31 (encTC (⟨k, i, i + n, []⟩, match decide (n > 40) with | true => 4 | false => 0)) 1001 wOl))) (retX (RetS Go.Proofs.Tryd.prog Go.Proofs.Tryd.f31 (encTC (⟨k, i, i + n, []⟩, match decide (n > 40) with | true => 4 | false => 0)) 1001 wOl))) := by
   intro k tm ht
   refine WR.weak (SW.tellR ht (.cons rfl (.inl rfl) (.cons rfl (.inl rfl) .nil))) ?_
   unfold rc31_J1
   refine WR.seq (WR.reg (WQ.runS [] 4 _ _ _ _ rfl ?_))
   rw [subB (by omega) (by omega), Nat.add_sub_cancel_left]
   refine WQ.runS [] 1 _ _ _ _ rfl (WQ.nilS ?_)
   by_cases h40 : n > 40
   ·rw [show decide ((n : Int) > 40) = true from decide_eq_true (by omega), decide_eq_true h40]
    refine WR.condT rfl ?_
    repeat (first | refine WR.seq ?_ | refine WR.block ?_ | refine WR.scope ?_ | refine WR.skip ?_ | refine WR.exit ?_ | refine WR.condT rfl ?_ | refine WR.condF rfl ?_ | refine WR.reg (WQ.runS [] 1000 _ _ _ _ rfl ?_) | refine WQ.nilS ?_ | refine WR.dreg hmix (DW.runS [] 1000 _ _ _ _ _ _ rfl ?_))
    exact WR.ret ⟨rfl, rfl, ⟨_, rfl, VLe.refl _⟩, fun _ _ => rfl⟩
   ·rw [show decide ((n : Int) > 40) = false from decide_eq_false (by omega), decide_eq_false h40]
    refine WR.condF rfl (WR.skip ?_)
    refine tokEnd (s := s) (c := c) rfl (fun st q => q) _ ?_
    repeat (first | exact .nil | refine .cons rfl (.v (VLe.refl _)) ?_ | refine .cons rfl (.l _ _ rfl) ?_)
  cases hw : wordB ((s.drop i).take n) with
  | true =>
   refine WR.condT rfl (WR.reg (WQ.runS [] 1000 _ _ _ _ rfl (WQ.nilS ?_)))
   refine fin 5 _ ?_
   repeat (first | exact .nil | refine .cons rfl (.v (VLe.refl _)) ?_ | refine .cons rfl (.l _ _ rfl) ?_)
  | false =>
   refine WR.condF rfl (WR.skip ?_)
   refine fin 1 _ ?_
   repeat (first | exact .nil | refine .cons rfl (.v (VLe.refl _)) ?_ | refine .cons rfl (.l _ _ rfl) ?_)
 | false =>
 refine WR.condF rfl ?_
 refine WR.seq (WR.reg (WQ.runS [] 1 _ _ _ _ rfl ?_))
 refine WQ.callH rfl rfl rfl rfl rfl (digit_spec c _) .base rfl (WQ.runS [] 1000 _ _ _ _ rfl (WQ.nilS ?_))
 cases hD : digitB c with
 | true =>
  rw [tokF_digit hL hD]
  have w1 := while_spec s 47 digitB (fun c hc h => digit_spec c h) hl i (by omega)
  have c1 := cntF_le digitB (s.drop i)
  rw [List.length_drop] at c1
  generalize cntF digitB (s.drop i) = n at w1 c1 ⊢
  refine WR.condT rfl ?_
  refine WR.seq (WR.reg (WQ.runS [] 2 _ _ _ _ rfl ?_))
  refine WQ.callH rfl rfl rfl rfl rfl (w1 _) .base rfl (WQ.runS [] 1000 _ _ _ _ rfl (WQ.nilS ?_))
  refine WR.seq (WR.reg (WQ.runS [] 4 _ _ _ _ rfl ?_))
  rw [subB (by omega) (by omega), Nat.add_sub_cancel_left]
  refine WQ.runS [] 1000 _ _ _ _ rfl (WQ.nilS ?_)
  refine WR.seq (WR.reg (WQ.runS [] 2 _ _ _ _ rfl ?_))
  unfold numBad
  by_cases h15 : n > 15
  ·rw [show decide ((n : Int) > 15) = true from decide_eq_true (by omega), decide_eq_true h15, Bool.true_or]
   refine WQ.runS [] 1000 _ _ _ _ rfl (WQ.nilS (WR.condT rfl ?_))
   repeat (first | refine WR.seq ?_ | refine WR.block ?_ | refine WR.scope ?_ | refine WR.skip ?_ | refine WR.exit ?_ | refine WR.condT rfl ?_ | refine WR.condF rfl ?_ | refine WR.reg (WQ.runS [] 1000 _ _ _ _ rfl ?_) | refine WQ.nilS ?_ | refine WR.dreg hmix (DW.runS [] 1000 _ _ _ _ _ _ rfl ?_))
   exact WR.ret ⟨rfl, rfl, ⟨_, rfl, VLe.refl _⟩, fun _ _ => rfl⟩
  rw [show decide ((n : Int) > 15) = false from decide_eq_false (by omega), decide_eq_false h15, Bool.false_or]
  refine WQ.runS [] 3 _ _ _ _ rfl ?_
  by_cases h48 : c = 48
  ·rw [show decide ((c : Int) = 48) = true from decide_eq_true (by omega), decide_eq_true h48, Bool.true_and]
   refine WQ.runS [] 3 _ _ _ _ rfl ?_
   by_cases h1 : n > 1
   ·rw [show decide ((n : Int) > 1) = true from decide_eq_true (by omega), decide_eq_true h1]
    refine WQ.runS [] 1000 _ _ _ _ rfl (WQ.nilS (WR.condT rfl ?_))
    repeat (first | refine WR.seq ?_ | refine WR.block ?_ | refine WR.scope ?_ | refine WR.skip ?_ | refine WR.exit ?_ | refine WR.condT rfl ?_ | refine WR.condF rfl ?_ | refine WR.reg (WQ.runS [] 1000 _ _ _ _ rfl ?_) | refine WQ.nilS ?_ | refine WR.dreg hmix (DW.runS [] 1000 _ _ _ _ _ _ rfl ?_))
    exact WR.ret ⟨rfl, rfl, ⟨_, rfl, VLe.refl _⟩, fun _ _ => rfl⟩
   ·rw [show decide ((n : Int) > 1) = false from decide_eq_false (by omega), decide_eq_false h1]
    refine WQ.runS [] 1000 _ _ _ _ rfl (WQ.nilS (WR.condF rfl (WR.skip ?_)))
    refine tokEnd (s := s) (c := c) (k := 2) (i := i) (e := i + n) rfl (fun st q => q) _ ?_
    repeat (first | exact .nil | refine .cons rfl (.v (VLe.refl _)) ?_ | refine .cons rfl (.l _ _ rfl) ?_)
  ·rw [show decide ((c : Int) = 48) = false from decide_eq_false (by omega), decide_eq_false h48, Bool.false_and]
   refine WQ.runS [] 1000 _ _ _ _ rfl (WQ.nilS (WR.condF rfl (WR.skip ?_)))
   refine tokEnd (s := s) (c := c) (k := 2) (i := i) (e := i + n) rfl (fun st q => q) _ ?_
   repeat (first | exact .nil | refine .cons rfl (.v (VLe.refl _)) ?_ | refine .cons rfl (.l _ _ rfl) ?_)
 | false =>
 refine WR.condF rfl ?_
 refine WR.seq (WR.reg (WQ.runS [] 2 _ _ _ _ rfl ?_))
 by_cases h34 : c = 34
 ·rw [tokF_quot hL hD h34, show decide ((c : Int) = 34) = true from decide_eq_true (by omega)]
  have qs := quoted_spec s hl i hi
  generalize quotF s i = q at qs ⊢
  refine WQ.runS [] 1000 _ _ _ _ rfl (WQ.nilS (WR.condT rfl ?_))
  refine WR.seq (WR.reg (WQ.runS [] 2 _ _ _ _ rfl ?_))
  refine WQ.callH rfl rfl rfl rfl rfl (qs _) .base rfl (WQ.runS [] 1000 _ _ _ _ rfl (WQ.nilS ?_))
  exact WR.ret ⟨rfl, rfl, ⟨_, rfl, VLe.refl _⟩, fun _ _ => rfl⟩
 rw [show decide ((c : Int) = 34) = false from decide_eq_false (by omega)]
 refine WQ.runS [] 1000 _ _ _ _ rfl (WQ.nilS (WR.condF rfl ?_))
 have p1 := pfx_spec (s.drop i) [61, 61]
 have p2 := pfx_spec (s.drop i) [38, 38]
 have two : (pfxB (s.drop i) [61, 61] || pfxB (s.drop i) [38, 38]) = true → ∀ tm : TM, TellT tm (tkLc 4 i (i + 1)) (tkTm s i c) → ∀ QN : S → Prop, (∀ s1, WR Go.Proofs.Tryd.prog [] ⟨Go.Proofs.Tryd.f31.ntmps, none, 31⟩ rc31_J2 s1 (RetS Go.Proofs.Tryd.prog Go.Proofs.Tryd.f31 (encTC (tokF s i c)) 1001 wOl) (retX (RetS Go.Proofs.Tryd.prog Go.Proofs.Tryd.f31 (encTC (tokF s i c)) 1001 wOl)) → QN s1) → ∀ QX,
   WR Go.Proofs.Tryd.prog [] ⟨Go.Proofs.Tryd.f31.ntmps, none, 31⟩ (.reg [.op (.fa (.t 8) 2) 82, .op (.ld (.t 82) none) 83, .op (.bin .add (.t 83) (.c (.int .i64 1))) 84, .op (.fa (.t 8) 2) 85, ⟨0, 0, some (.st (.t 85) (.t 84) 1), [], none, none⟩]) (SL.toS ⟨tm, [], none, 1001, wOl, tkLc 4 i (i + 1)⟩) QN QX := by
  intro hp tm ht QN hq QX
  rw [tokF_two hL hD h34 hp] at hq
  refine WR.weak (SW.tellR ht (.cons rfl (.inl rfl) (.cons rfl (.inl rfl) .nil))) ?_
  refine WR.reg (WQ.runS [] 3 _ _ _ _ rfl ?_)
  rw [nextB (by omega)]
  refine WQ.runS [] 1000 _ _ _ _ rfl (WQ.nilS ?_)
  refine hq _ (tokEnd (s := s) (c := c) (k := 4) (i := i) (e := i + 2) rfl (fun st q => q) _ ?_)
  repeat (first | exact .nil | refine .cons rfl (.v (VLe.refl _)) ?_ | refine .cons rfl (.l _ _ rfl) ?_)
 refine WR.seq (WR.reg (WQ.runS [] 2 _ _ _ _ rfl ?_))
 refine WQ.lightS rfl rfl rfl (slc_str1 rfl rfl (by omega)) rfl ?_
 refine WQ.callH rfl rfl rfl rfl rfl (p1 _) .base rfl ?_
 cases hp1 : pfxB (s.drop i) [61, 61] with
 | true =>
  refine WQ.runS [] 1000 _ _ _ _ rfl (WQ.nilS (WR.condT rfl ?_))
  refine two (by rw [hp1, Bool.true_or]) _ ?_ _ (fun s1 q => q) _
  repeat (first | exact .nil | refine .cons rfl (.v (VLe.refl _)) ?_ | refine .cons rfl (.l _ _ rfl) ?_)
 | false =>
 refine WQ.runS [] 3 _ _ _ _ rfl ?_
 refine WQ.lightS rfl rfl rfl (slc_str1 rfl rfl (by omega)) rfl ?_
 refine WQ.callH rfl rfl rfl rfl rfl (p2 _) .base rfl ?_
 cases hp2 : pfxB (s.drop i) [38, 38] with
 | true =>
  refine WQ.runS [] 1000 _ _ _ _ rfl (WQ.nilS (WR.condT rfl ?_))
  refine two (by rw [hp1, hp2, Bool.false_or]) _ ?_ _ (fun s1 q => q) _
  repeat (first | exact .nil | refine .cons rfl (.v (VLe.refl _)) ?_ | refine .cons rfl (.l _ _ rfl) ?_)
 | false =>
 rw [tokF_one hL hD h34 (by rw [hp1, hp2, Bool.false_or])]
 refine WQ.runS [] 1000 _ _ _ _ rfl (WQ.nilS (WR.condF rfl ?_))
 refine WR.seq (WR.reg (WQ.runS [] 1 _ _ _ _ rfl ?_))
 refine WQ.callH rfl rfl rfl rfl rfl (ib_spec symL c hc8 _) .base rfl (WQ.runS [] 1 _ _ _ _ rfl ?_)
 cases hz : decide (ibV c symL < 0) with
 | true =>
  refine WQ.runS [] 1000 _ _ _ _ rfl (WQ.nilS (WR.condT rfl ?_))
  repeat (first | refine WR.seq ?_ | refine WR.block ?_ | refine WR.scope ?_ | refine WR.skip ?_ | refine WR.exit ?_ | refine WR.condT rfl ?_ | refine WR.condF rfl ?_ | refine WR.reg (WQ.runS [] 1000 _ _ _ _ rfl ?_) | refine WQ.nilS ?_ | refine WR.dreg hmix (DW.runS [] 1000 _ _ _ _ _ _ rfl ?_))
  exact WR.ret ⟨rfl, rfl, ⟨_, rfl, VLe.refl _⟩, fun _ _ => rfl⟩
 | false =>
  refine WQ.runS [] 1000 _ _ _ _ rfl (WQ.nilS (WR.condF rfl (WR.skip ?_)))
  refine tokEnd (s := s) (c := c) (k := 4) (i := i) (e := i + 1) rfl (fun st q => q) _ ?_
  repeat (first | exact .nil | refine .cons rfl (.v (VLe.refl _)) ?_ | refine .cons rfl (.l _ _ rfl) ?_)
end Go.VM
end
