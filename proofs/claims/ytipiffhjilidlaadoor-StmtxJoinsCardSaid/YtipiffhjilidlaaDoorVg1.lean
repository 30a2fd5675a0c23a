/- laid for this seat: VlLexA VlLexB VlLexC VlLexD -/
import Derived.Test.YtipiffhjilidlaaDoorVg0
import Derived.Test.YtipiffhjilidlaaDoorVmR
import Derived.Test.YtipiffhjilidlaaDoorVmT
section
/- Tokens: bytes. -/
set_option maxRecDepth 100000
set_option linter.unusedVariables false
set_option linter.unusedSimpArgs false
namespace Go.VM
open Go.RowKit
theorem bE : Go.Proofs.Tryd.prog.follows .mixedOrders = true := by kernel_rfl
def aLu (c : Nat) : Int := IntKind.u8.wrap (BitVec.ofInt 8 c ||| BitVec.ofInt 8 32).toNat
def eR (c : Nat) : Bool := (decide (aLu c ≥ 97) && decide (aLu c ≤ 122)) || decide ((c : Int) = 95)
def dD (c : Nat) : Bool := decide ((c : Int) ≥ 48) && decide ((c : Int) ≤ 57)
def iW (c : Nat) : Bool := eR c || dD c
def cG (c : Nat) : Bool := (decide ((c : Int) ≥ 32) && decide ((c : Int) ≤ 126)) && !decide ((c : Int) = 34)
def cR (c : Nat) : Bool := !decide ((c : Int) = 10)
theorem sN (c : Nat) (h : H) : SCall Go.Proofs.Tryd.prog [] 45 [.int .u8 c] none h (.ret (.bool (eR c))) none h := by
 refine SCall.dY rfl ?_ (by exact ⟨trivial, trivial⟩) (by exact trivial) h
 refine SCall.listed (fn := Go.Proofs.Tryd.f45) (by kernel_rfl) aWo (by kernel_rfl) (by kernel_rfl) (Nat.le_refl _) rfl (trivial) trivial ?_
 unfold aZb
 refine WR.seq (WR.reg (WQ.aA [] 1000 _ _ _ _ rfl (WQ.aB ?_)))
 refine WR.seq (WR.reg (WQ.aA [] 3 _ _ _ _ rfl ?_))
 unfold eR
 show WQ Go.Proofs.Tryd.prog [] _ _ (SL.toS ⟨(5, .v (.bool (decide (aLu c ≥ 97)))) :: _, _, _, _, _, _⟩) _ _
 cases decide (aLu c ≥ 97)
 ·refine WQ.aA [] 8 _ _ _ _ rfl ?_
  rw [Bool.false_and, Bool.false_or]
  refine WQ.aA [] 1000 _ _ _ _ rfl (WQ.aB ?_)
  refine WR.ret ⟨rfl, rfl, ⟨_, rfl, VLe.refl _⟩, fun b _ => rfl⟩
 ·refine WQ.aA [] 4 _ _ _ _ rfl ?_
  rw [Bool.true_and]
  show WQ Go.Proofs.Tryd.prog [] _ _ (SL.toS ⟨(9, .v (.bool (decide (aLu c ≤ 122)))) :: _, _, _, _, _, _⟩) _ _
  cases decide (aLu c ≤ 122)
  ·rw [Bool.false_or]
   refine WQ.aA [] 1000 _ _ _ _ rfl (WQ.aB ?_)
   refine WR.ret ⟨rfl, rfl, ⟨_, rfl, VLe.refl _⟩, fun b _ => rfl⟩
  ·rw [Bool.true_or]
   refine WQ.aA [] 1000 _ _ _ _ rfl (WQ.aB ?_)
   refine WR.ret ⟨rfl, rfl, ⟨_, rfl, VLe.refl _⟩, fun b _ => rfl⟩
theorem oS (c : Nat) (h : H) : SCall Go.Proofs.Tryd.prog [] 47 [.int .u8 c] none h (.ret (.bool (dD c))) none h := by
 refine SCall.dY rfl ?_ (by exact ⟨trivial, trivial⟩) (by exact trivial) h
 refine SCall.listed (fn := Go.Proofs.Tryd.f47) (by kernel_rfl) aZn (by kernel_rfl) (by kernel_rfl) (Nat.le_refl _) rfl (trivial) trivial ?_
 unfold aVq
 refine WR.seq (WR.reg (WQ.aA [] 1000 _ _ _ _ rfl (WQ.aB ?_)))
 refine WR.seq (WR.reg (WQ.aA [] 2 _ _ _ _ rfl ?_))
 unfold dD
 cases decide ((c : Int) ≥ 48)
 ·rw [Bool.false_and]
  refine WQ.aA [] 1000 _ _ _ _ rfl (WQ.aB ?_)
  refine WR.ret ⟨rfl, rfl, ⟨_, rfl, VLe.refl _⟩, fun b _ => rfl⟩
 ·rw [Bool.true_and]
  refine WQ.aA [] 1000 _ _ _ _ rfl (WQ.aB ?_)
  refine WR.ret ⟨rfl, rfl, ⟨_, rfl, VLe.refl _⟩, fun b _ => rfl⟩
theorem aJw (c : Nat) (h : H) : SCall Go.Proofs.Tryd.prog [] 46 [.int .u8 c] none h (.ret (.bool (iW c))) none h := by
 refine SCall.dY rfl ?_ (by exact ⟨trivial, trivial⟩) (by exact trivial) h
 refine SCall.listed (fn := Go.Proofs.Tryd.f46) (by kernel_rfl) aXd (by kernel_rfl) (by kernel_rfl) (Nat.le_refl _) rfl (trivial) trivial ?_
 unfold aWq
 refine WR.seq (WR.reg (WQ.aA [] 1000 _ _ _ _ rfl (WQ.aB ?_)))
 refine WR.seq (WR.reg (WQ.aA [] 1 _ _ _ _ rfl ?_))
 refine WQ.aE rfl rfl rfl rfl rfl (sN c _) .base rfl ?_
 unfold iW
 cases eR c
 ·rw [Bool.false_or]
  refine WQ.aA [] 2 _ _ _ _ rfl ?_
  refine WQ.aE rfl rfl rfl rfl rfl (oS c _) .base rfl (WQ.aA [] 1000 _ _ _ _ rfl (WQ.aB ?_))
  refine WR.ret ⟨rfl, rfl, ⟨_, rfl, VLe.refl _⟩, fun b _ => rfl⟩
 ·rw [Bool.true_or]
  refine WQ.aA [] 1000 _ _ _ _ rfl (WQ.aB ?_)
  refine WR.ret ⟨rfl, rfl, ⟨_, rfl, VLe.refl _⟩, fun b _ => rfl⟩
theorem aLi (c : Nat) (h : H) : SCall Go.Proofs.Tryd.prog [] 44 [.int .u8 c] none h (.ret (.bool (cR c))) none h := by
 refine SCall.dY rfl ?_ (by exact ⟨trivial, trivial⟩) (by exact trivial) h
 refine SCall.listed (fn := Go.Proofs.Tryd.f44) (by kernel_rfl) aYn (by kernel_rfl) (by kernel_rfl) (Nat.le_refl _) rfl (trivial) trivial ?_
 unfold bAa
 repeat (first | refine WR.seq ?_ | refine WR.block ?_ | refine WR.scope ?_ | refine WR.skip ?_ | refine WR.exit ?_ | refine WR.aK rfl ?_ | refine WR.aG rfl ?_ | refine WR.reg (WQ.aA [] 1000 _ _ _ _ rfl ?_) | refine WQ.aB ?_ | refine WR.aW bE (DW.aA [] 1000 _ _ _ _ _ _ rfl ?_))
 refine WR.ret ⟨rfl, rfl, ⟨_, rfl, VLe.refl _⟩, fun b _ => rfl⟩
theorem aEg (c : Nat) (h : H) : SCall Go.Proofs.Tryd.prog [] 62 [.int .u8 c] none h (.ret (.bool (cG c))) none h := by
 refine SCall.dY rfl ?_ (by exact ⟨trivial, trivial⟩) (by exact trivial) h
 refine SCall.listed (fn := Go.Proofs.Tryd.f62) (by kernel_rfl) aWx (by kernel_rfl) (by kernel_rfl) (Nat.le_refl _) rfl (trivial) trivial ?_
 unfold aXr
 refine WR.seq (WR.reg (WQ.aA [] 1000 _ _ _ _ rfl (WQ.aB ?_)))
 refine WR.seq (WR.reg (WQ.aA [] 2 _ _ _ _ rfl ?_))
 unfold cG
 cases decide ((c : Int) ≥ 32)
 ·rw [Bool.false_and, Bool.false_and]
  refine WQ.aA [] 1000 _ _ _ _ rfl (WQ.aB ?_)
  refine WR.ret ⟨rfl, rfl, ⟨_, rfl, VLe.refl _⟩, fun b _ => rfl⟩
 ·rw [Bool.true_and]
  refine WQ.aA [] 3 _ _ _ _ rfl ?_
  cases decide ((c : Int) ≤ 126)
  ·rw [Bool.false_and]
   refine WQ.aA [] 1000 _ _ _ _ rfl (WQ.aB ?_)
   refine WR.ret ⟨rfl, rfl, ⟨_, rfl, VLe.refl _⟩, fun b _ => rfl⟩
  ·rw [Bool.true_and]
   refine WQ.aA [] 1000 _ _ _ _ rfl (WQ.aB ?_)
   refine WR.ret ⟨rfl, rfl, ⟨_, rfl, VLe.refl _⟩, fun b _ => rfl⟩
theorem aWg : ∃ fn, (Go.Proofs.Tryd.prog).funcs[69]? = some fn ∧ fn.body = none ∧ fn.name = "internal/bytealg.IndexByteString" ∧ Extern.findNext fn = none ∧ Extern.find fn = some Extern.BytealgIndexByte.indexByte :=
 ⟨Go.Proofs.Tryd.f69, by kernel_rfl, by kernel_rfl, by kernel_rfl, by kernel_rfl, by kernel_rfl⟩
theorem aMq (bs : List Nat) (c : Nat) (hc : c < 256) (h : H) : SCall Go.Proofs.Tryd.prog [] 60 [.str bs, .int .u8 c] none h (.ret (.int .i64 (ibV c bs))) none h := by
 refine SCall.dY rfl ?_ (by exact ⟨trivial, trivial, trivial⟩) (by exact trivial) h
 refine SCall.listed (fn := Go.Proofs.Tryd.f60) (by kernel_rfl) aZc (by kernel_rfl) (by kernel_rfl) (Nat.le_refl _) rfl (trivial) trivial ?_
 unfold aZt
 obtain ⟨fn, h1, h2, h3, h4, h5⟩ := aWg
 refine WR.seq (WR.reg (WQ.aA [] 1000 _ _ _ _ rfl (WQ.aB ?_)))
 refine WR.seq (WR.reg (WQ.aA [] 2 _ _ _ _ rfl ?_))
 refine WQ.iH rfl (aOq h1 h2 h3 h4 h5 rfl rfl hc) rfl (WQ.aA [] 1000 _ _ _ _ rfl (WQ.aB ?_))
 refine WR.ret ⟨rfl, rfl, ⟨_, rfl, VLe.refl _⟩, fun b _ => rfl⟩
theorem aGg (bs : List Nat) (c : Nat) (hc : c < 256) (h : H) : SCall Go.Proofs.Tryd.prog [] 42 [.str bs, .int .u8 c] none h (.ret (.int .i64 (ibV c bs))) none h := by
 refine SCall.dY rfl ?_ (by exact ⟨trivial, trivial, trivial⟩) (by exact trivial) h
 refine SCall.listed (fn := Go.Proofs.Tryd.f42) (by kernel_rfl) aZj (by kernel_rfl) (by kernel_rfl) (Nat.le_refl _) rfl (trivial) trivial ?_
 unfold aYj
 refine WR.seq (WR.reg (WQ.aA [] 1000 _ _ _ _ rfl (WQ.aB ?_)))
 refine WR.seq (WR.reg (WQ.aA [] 2 _ _ _ _ rfl ?_))
 refine WQ.aE rfl rfl rfl rfl rfl (aMq bs c hc _) .base rfl (WQ.aA [] 1000 _ _ _ _ rfl (WQ.aB ?_))
 refine WR.ret ⟨rfl, rfl, ⟨_, rfl, VLe.refl _⟩, fun b _ => rfl⟩
def aN (c : Nat) : Bool := decide (ibV c [32, 9, 10, 13] ≥ 0)
theorem aDs (c : Nat) (hc : c < 256) (h : H) : SCall Go.Proofs.Tryd.prog [] 41 [.int .u8 c] none h (.ret (.bool (aN c))) none h := by
 refine SCall.dY rfl ?_ (by exact ⟨trivial, trivial⟩) (by exact trivial) h
 refine SCall.listed (fn := Go.Proofs.Tryd.f41) (by kernel_rfl) aXv (by kernel_rfl) (by kernel_rfl) (Nat.le_refl _) rfl (trivial) trivial ?_
 unfold aYa
 refine WR.seq (WR.reg (WQ.aA [] 1000 _ _ _ _ rfl (WQ.aB ?_)))
 refine WR.seq (WR.reg (WQ.aA [] 1 _ _ _ _ rfl ?_))
 refine WQ.aE rfl rfl rfl rfl rfl (aGg [32, 9, 10, 13] c hc _) .base rfl (WQ.aA [] 1000 _ _ _ _ rfl (WQ.aB ?_))
 refine WR.ret ⟨rfl, rfl, ⟨_, rfl, VLe.refl _⟩, fun b _ => rfl⟩
def dM (s p : List Nat) : Bool := decide (p.length ≤ s.length) && decide (s.take p.length = p)
theorem aJj (s p : List Nat) (h : H) : SCall Go.Proofs.Tryd.prog [] 61 [.str s, .str p] none h (.ret (.bool (dM s p))) none h := by
 refine SCall.dY rfl ?_ (by exact ⟨trivial, trivial, trivial⟩) (by exact trivial) h
 refine SCall.listed (fn := Go.Proofs.Tryd.f61) (by kernel_rfl) aXp (by kernel_rfl) (by kernel_rfl) (Nat.le_refl _) rfl (trivial) trivial ?_
 unfold aZk
 refine WR.seq (WR.reg (WQ.aA [] 1000 _ _ _ _ rfl (WQ.aB ?_)))
 refine WR.seq (WR.reg (WQ.aA [] 5 _ _ _ _ rfl ?_))
 unfold dM
 by_cases hl : p.length ≤ s.length
 ·rw [show decide ((s.length : Int) ≥ (p.length : Int)) = true from decide_eq_true (by omega), decide_eq_true hl, Bool.true_and]
  refine WQ.aA [] 4 _ _ _ _ rfl ?_
  refine WQ.bQ rfl rfl rfl (aOl rfl rfl hl) rfl (WQ.aA [] 1000 _ _ _ _ rfl (WQ.aB ?_))
  refine WR.ret ⟨rfl, rfl, ⟨_, rfl, VLe.refl _⟩, fun b _ => rfl⟩
 ·rw [show decide ((s.length : Int) ≥ (p.length : Int)) = false from decide_eq_false (by omega), decide_eq_false hl, Bool.false_and]
  refine WQ.aA [] 1000 _ _ _ _ rfl (WQ.aB ?_)
  refine WR.ret ⟨rfl, rfl, ⟨_, rfl, VLe.refl _⟩, fun b _ => rfl⟩
theorem uG (s p : List Nat) (h : H) : SCall Go.Proofs.Tryd.prog [] 43 [.str s, .str p] none h (.ret (.bool (dM s p))) none h := by
 refine SCall.dY rfl ?_ (by exact ⟨trivial, trivial, trivial⟩) (by exact trivial) h
 refine SCall.listed (fn := Go.Proofs.Tryd.f43) (by kernel_rfl) aXu (by kernel_rfl) (by kernel_rfl) (Nat.le_refl _) rfl (trivial) trivial ?_
 unfold aYm
 refine WR.seq (WR.reg (WQ.aA [] 1000 _ _ _ _ rfl (WQ.aB ?_)))
 refine WR.seq (WR.reg (WQ.aA [] 2 _ _ _ _ rfl ?_))
 refine WQ.aE rfl rfl rfl rfl rfl (aJj s p _) .base rfl (WQ.aA [] 1000 _ _ _ _ rfl (WQ.aB ?_))
 refine WR.ret ⟨rfl, rfl, ⟨_, rfl, VLe.refl _⟩, fun b _ => rfl⟩
end Go.VM
end
section
/- Tokens: runs of bytes, layout. -/
set_option maxRecDepth 100000
set_option linter.unusedVariables false
set_option linter.unusedSimpArgs false
namespace Go.VM
open Go.RowKit
def big : Nat := 4611686018427387904
theorem bS {i : Nat} (h : i < big) : IntKind.i64.wrap ((i : Int) + 1) = ((i + 1 : Nat) : Int) := by
 unfold big at h
 rw [wrap64 (by omega) (by omega)]; rfl
theorem qO {P : Program} {gl : List Nat} {nt : Nat} {tm : TM} {h : H} {x i : RX} {k : IntKind} {s : List Nat} {n b : Nat} (hx : rv gl tm x = some (.str s)) (hi : rv gl tm i = some (.int k n)) (hg : s[n]? = some b) : bR P gl nt tm h (some (.idxs x i)) (.v (.int .u8 b)) := by
 refine bD ?_
 simp only [dO, rl, hx, hi, Option.bind_some, gN]
 have : ¬ ((n : Int) < 0) := by omega
 simp [this, hg]
theorem uY {P : Program} {gl : List Nat} {nt : Nat} {tm : TM} {h : H} {x lo : RX} {k : IntKind} {s : List Nat} {a : Nat} (hx : rv gl tm x = some (.str s)) (hlo : rv gl tm lo = some (.int k a)) (h1 : a ≤ s.length) :
  bR P gl nt tm h (some (.slc .str x (some lo) none none)) (.v (.str (s.drop a))) := by
 refine bD ?_
 have e1 : rvo gl tm (some lo) = some (some (.int k a)) := by simp [rvo, hlo]
 have e3 : rvo gl tm none = some none := rfl
 simp only [dO, rl, hx, e1, e3]
 simp [oZ, nat?, gN, h1, List.take_of_length_le]
def aP (p : Nat → Bool) : List Nat → Nat
 | [] => 0
 | c :: r => match p c with
  | true => aP p r + 1
  | false => 0
theorem cI (p : Nat → Bool) : ∀ l : List Nat, aP p l ≤ l.length
 | [] => Nat.le_refl _
 | c :: r => by
  simp only [aP]
  split
  ·have := cI p r; simp; omega
  ·simp
def aUb (s : List Nat) (f i : Nat) : TM := [(0, .v (.str s)), (1, .v (.int .i64 i)), (2, .v (.fn (.func f) [] []))]
theorem aEu {QN : S → Prop} {QX : X → S → Prop} (s : List Nat) (f : Nat) (p : Nat → Bool) (hf : ∀ c ∈ s, ∀ h : H, SCall Go.Proofs.Tryd.prog [] f [.int .u8 c] none h (.ret (.bool (p c))) none h) (hl : s.length < big) (e : Nat)
  (h0 : ∀ tm, TellT tm [] (aUb s f e) → QX (.exit 0) (SL.toS ⟨tm, [], none, 1000, [], []⟩)) : ∀ (m i : Nat), i + m = s.length → e = i + aP p (s.drop i) →
  WLr Go.Proofs.Tryd.prog [] ⟨Go.Proofs.Tryd.f40.ntmps, none, 40⟩ tW (SL.toS ⟨aUb s f i, [], none, 1000, [], []⟩) QN QX := by
 intro m
 induction m with
 | zero =>
  intro i hi he
  rw [List.drop_eq_nil_iff.2 (by omega)] at he
  have he : e = i := he
  subst he
  unfold tW
  refine WLr.of ?_
  refine WR.seq (WR.seq (WR.reg (WQ.aA [] 4 _ _ _ _ rfl ?_)))
  rw [show decide ((e : Int) < (s.length : Int)) = false from decide_eq_false (by omega)]
  refine WQ.aA [] 1000 _ _ _ _ rfl (WQ.aB (WR.aG rfl (WR.exit (h0 _ ?_))))
  repeat (first | exact .nil | refine .cons rfl (.v (VLe.refl _)) ?_)
 | succ m ih =>
  intro i hi he
  obtain ⟨c, hc, hd⟩ : ∃ c, s[i]? = some c ∧ s.drop i = c :: s.drop (i + 1) := ⟨s[i], List.getElem?_eq_getElem (by omega), List.drop_eq_getElem_cons (by omega)⟩
  have hfc := hf c (List.mem_of_getElem? hc)
  rw [hd, aP] at he
  unfold tW
  refine WLr.of ?_
  refine WR.seq (WR.seq (WR.reg (WQ.aA [] 4 _ _ _ _ rfl ?_)))
  rw [show decide ((i : Int) < (s.length : Int)) = true from decide_eq_true (by omega)]
  refine WQ.aA [] 4 _ _ _ _ rfl ?_
  refine WQ.bQ rfl rfl rfl (qO rfl rfl hc) rfl ?_
  refine WQ.aE rfl rfl rfl rfl rfl (hfc _) .base rfl ?_
  cases hp : p c
  ·rw [hp] at he
   have he : e = i := he
   subst he
   refine WQ.aA [] 1000 _ _ _ _ rfl (WQ.aB (WR.aG rfl (WR.exit (h0 _ ?_))))
   repeat (first | exact .nil | refine .cons rfl (.v (VLe.refl _)) ?_)
  ·rw [hp] at he
   have he : e = i + 1 + aP p (s.drop (i + 1)) := by simp only at he; omega
   refine WQ.aA [] 1000 _ _ _ _ rfl (WQ.aB (WR.aK rfl (WR.skip ?_)))
   repeat (first | refine WR.seq ?_ | refine WR.block ?_ | refine WR.scope ?_ | refine WR.skip ?_ | refine WR.exit ?_ | refine WR.aK rfl ?_ | refine WR.aG rfl ?_ | refine WR.reg (WQ.aA [] 1000 _ _ _ _ rfl ?_) | refine WQ.aB ?_ | refine WR.aW bE (DW.aA [] 1000 _ _ _ _ _ _ rfl ?_))
   rw [bS (by unfold big at hl ⊢; omega)]
   refine WIr.again (WLr.weak ?_ (ih (i + 1) (by omega) he))
   refine SW.bF ?_ ?_
   ·repeat (first | exact .nil | refine .cons rfl (.v (VLe.refl _)) ?_ | refine .cons rfl (.l _ _ rfl) ?_ | refine .cons rfl (.v (VLe.unk _ _)) ?_)
   ·repeat (first | exact .nil | refine .cons rfl (.inl rfl) ?_)
theorem jN (s : List Nat) (f : Nat) (p : Nat → Bool) (hf : ∀ c ∈ s, ∀ h : H, SCall Go.Proofs.Tryd.prog [] f [.int .u8 c] none h (.ret (.bool (p c))) none h) (hl : s.length < big) (i : Nat) (hi : i ≤ s.length) (h : H) :
  SCall Go.Proofs.Tryd.prog [] 40 [.str s, .int .i64 i, .fn (.func f) [] []] none h (.ret (.int .i64 (i + aP p (s.drop i) : Nat))) none h := by
 refine SCall.dY rfl ?_ (by exact ⟨trivial, trivial, ⟨trivial, trivial, trivial⟩, trivial⟩) (by exact trivial) h
 refine SCall.listed (fn := Go.Proofs.Tryd.f40) (by kernel_rfl) aZy (by kernel_rfl) (by kernel_rfl) (Nat.le_refl _) rfl (trivial) trivial ?_
 unfold aYb
 repeat (first | refine WR.seq ?_ | refine WR.block ?_ | refine WR.scope ?_ | refine WR.skip ?_ | refine WR.exit ?_ | refine WR.aK rfl ?_ | refine WR.aG rfl ?_ | refine WR.reg (WQ.aA [] 1000 _ _ _ _ rfl ?_) | refine WQ.aB ?_ | refine WR.aW bE (DW.aA [] 1000 _ _ _ _ _ _ rfl ?_))
 refine WR.loop (WLr.weak (s := SL.toS ⟨aUb s f i, [], none, 1000, [], []⟩) ?_ (aEu s f p hf hl _ (fun tm ht => ?_) (s.length - i) i (by omega) rfl))
 ·refine SW.bF ?_ ?_
  ·repeat (first | exact .nil | refine .cons rfl (.v (VLe.refl _)) ?_ | refine .cons rfl (.l _ _ rfl) ?_ | refine .cons rfl (.v (VLe.unk _ _)) ?_)
  ·repeat (first | exact .nil | refine .cons rfl (.inl rfl) ?_)
 ·refine WR.weak (SW.bF ht .nil) ?_
  unfold aIk
  repeat (first | refine WR.seq ?_ | refine WR.block ?_ | refine WR.scope ?_ | refine WR.skip ?_ | refine WR.exit ?_ | refine WR.aK rfl ?_ | refine WR.aG rfl ?_ | refine WR.reg (WQ.aA [] 1000 _ _ _ _ rfl ?_) | refine WQ.aB ?_ | refine WR.aW bE (DW.aA [] 1000 _ _ _ _ _ _ rfl ?_))
  refine WR.ret ⟨rfl, rfl, ⟨_, rfl, VLe.refl _⟩, fun b _ => rfl⟩
def eW (s : List Nat) : Nat → Nat → Nat
 | 0, i => i
 | n + 1, i => if dM (s.drop (i + aP aN (s.drop i))) [47, 47] = true then eW s n (i + aP aN (s.drop i) + aP cR (s.drop (i + aP aN (s.drop i)))) else i + aP aN (s.drop i)
theorem tF {s p : List Nat} (h : dM s p = true) : p.length ≤ s.length := by
 unfold dM at h
 simp only [Bool.and_eq_true, decide_eq_true_eq] at h
 exact h.1
theorem tY {s : List Nat} (h : dM s [47, 47] = true) : 2 ≤ aP cR s := by
 unfold dM at h
 simp only [Bool.and_eq_true, decide_eq_true_eq] at h
 obtain ⟨h1, h2⟩ := h
 cases s with
 | nil => simp at h1
 | cons a s =>
  cases s with
  | nil => simp at h1
  | cons b s =>
   simp at h2
   obtain ⟨rfl, rfl⟩ := h2
   show (match cR 47 with | true => (match cR 47 with | true => aP cR s + 1 | false => 0) + 1 | false => 0) ≥ 2
   rw [show cR 47 = true from rfl]
   show aP cR s + 1 + 1 ≥ 2
   omega
theorem aKk {QN : S → Prop} {QX : X → S → Prop} (s : List Nat) (h8 : ∀ c ∈ s, c < 256) (hl : s.length < big) (e : Nat)
  (h1 : ∀ st, lX Go.Proofs.Tryd.prog Go.Proofs.Tryd.f30 (.int .i64 e) 1000 [] st → QX .ret st) : ∀ (n i : Nat), i ≤ s.length → s.length < i + n → e = eW s n i →
  WLr Go.Proofs.Tryd.prog [] ⟨Go.Proofs.Tryd.f30.ntmps, none, 30⟩ yO (SL.toS ⟨[(0, .v (.str s)), (1, .v (.int .i64 i))], [], none, 1000, [], []⟩) QN QX := by
 intro n
 induction n with
 | zero => intro i hi hn; omega
 | succ n ih =>
  intro i hi hn he
  have w1 := jN s 41 aN (fun c hc h => aDs c (h8 c hc) h) hl i hi
  have c1 := cI aN (s.drop i)
  rw [List.length_drop] at c1
  rw [eW] at he
  generalize hj : i + aP aN (s.drop i) = j at w1 he
  have hjl : j ≤ s.length := by omega
  have hp := uG (s.drop j) [47, 47]
  unfold yO
  refine WLr.of ?_
  refine WR.block ?_
  refine WR.seq (WR.reg (WQ.aA [] 2 _ _ _ _ rfl ?_))
  refine WQ.aE rfl rfl rfl rfl rfl (w1 _) .base rfl (WQ.aA [] 1000 _ _ _ _ rfl (WQ.aB ?_))
  refine WR.seq (WR.seq (WR.reg (WQ.aA [] 2 _ _ _ _ rfl ?_)))
  refine WQ.bQ rfl rfl rfl (uY rfl rfl hjl) rfl ?_
  refine WQ.aE rfl rfl rfl rfl rfl (hp _) .base rfl ?_
  cases hb : dM (s.drop j) [47, 47]
  ·rw [if_neg (by rw [hb]; decide)] at he
   subst he
   refine WQ.aA [] 1000 _ _ _ _ rfl (WQ.aB (WR.aK rfl ?_))
   refine WR.seq (WR.reg (WQ.aA [] 1000 _ _ _ _ rfl (WQ.aB ?_)))
   exact WR.ret (h1 _ ⟨rfl, rfl, ⟨_, rfl, VLe.refl _⟩, fun _ _ => rfl⟩)
  ·rw [if_pos hb] at he
   have w2 := jN s 44 cR (fun c hc h => aLi c h) hl j hjl
   have c2 := cI cR (s.drop j)
   have c3 := tY hb
   rw [List.length_drop] at c2
   refine WQ.aA [] 1000 _ _ _ _ rfl (WQ.aB (WR.aG rfl (WR.skip ?_)))
   refine WR.reg (WQ.aA [] 2 _ _ _ _ rfl ?_)
   refine WQ.aE rfl rfl rfl rfl rfl (w2 _) .base rfl (WQ.aA [] 1000 _ _ _ _ rfl (WQ.aB ?_))
   refine WIr.again (WLr.weak ?_ (ih _ (by omega) (by omega) he))
   refine SW.bF ?_ ?_
   ·repeat (first | exact .nil | refine .cons rfl (.v (VLe.refl _)) ?_ | refine .cons rfl (.l _ _ rfl) ?_ | refine .cons rfl (.v (VLe.unk _ _)) ?_)
   ·repeat (first | exact .nil | refine .cons rfl (.inl rfl) ?_)
theorem yG (s : List Nat) (h8 : ∀ c ∈ s, c < 256) (hl : s.length < big) (i : Nat) (hi : i ≤ s.length) (h : H) :
  SCall Go.Proofs.Tryd.prog [] 30 [.str s, .int .i64 i] none h (.ret (.int .i64 (eW s (s.length + 1) i : Nat))) none h := by
 refine SCall.dY rfl ?_ (by exact ⟨trivial, trivial, trivial⟩) (by exact trivial) h
 refine SCall.listed (fn := Go.Proofs.Tryd.f30) (by kernel_rfl) aVy (by kernel_rfl) (by kernel_rfl) (Nat.le_refl _) rfl (trivial) trivial ?_
 unfold aWt
 repeat (first | refine WR.seq ?_ | refine WR.block ?_ | refine WR.scope ?_ | refine WR.skip ?_ | refine WR.exit ?_ | refine WR.aK rfl ?_ | refine WR.aG rfl ?_ | refine WR.reg (WQ.aA [] 1000 _ _ _ _ rfl ?_) | refine WQ.aB ?_ | refine WR.aW bE (DW.aA [] 1000 _ _ _ _ _ _ rfl ?_))
 refine WR.loop (WLr.weak (s := SL.toS ⟨[(0, .v (.str s)), (1, .v (.int .i64 i))], [], none, 1000, [], []⟩) ?_ (aKk s h8 hl _ (fun st q => q) (s.length + 1) i hi (by omega) rfl))
 refine SW.bF ?_ ?_
 ·repeat (first | exact .nil | refine .cons rfl (.v (VLe.refl _)) ?_ | refine .cons rfl (.l _ _ rfl) ?_ | refine .cons rfl (.v (VLe.unk _ _)) ?_)
 ·repeat (first | exact .nil | refine .cons rfl (.inl rfl) ?_)
end Go.VM
end
section
/- Tokens: one. -/
set_option maxRecDepth 100000
set_option linter.unusedVariables false
set_option linter.unusedSimpArgs false
namespace Go.VM
open Go.RowKit
structure Tk where
 kind : Nat
 a : Nat
 e : Nat
 text : List Nat
def gT (t : Tk) : List V := [.int .i64 t.kind, .int .i64 t.a, .int .i64 t.e, .str t.text]
def zTk : Tk := ⟨0, 0, 0, []⟩
def lS : List (List Nat) := [[112, 97, 99, 107, 97, 103, 101], [105, 109, 112, 111, 114, 116], [116, 121, 112, 101], [115, 116, 114, 117, 99, 116], [105, 110, 116, 101, 114, 102, 97, 99, 101], [102, 117, 110, 99], [108, 101, 116], [105, 102], [101, 108, 115, 101], [102, 111, 114], [114, 101, 116, 117, 114, 110], [110, 101, 119], [116, 114, 117, 101], [102, 97, 108, 115, 101], [105, 110, 116], [98, 111, 111, 108], [116, 101, 120, 116]]
def aFh (w : List Nat) : V × V := (.str w, .bool true)
def tA : List (V × V) := lS.map aFh
def aKu (s : List Nat) : List (List Nat) → Bool
 | [] => false
 | w :: r => match decide (s = w) with
  | true => true
  | false => aKu s r
def aIc (s : List Nat) : Bool := aKu s lS
theorem aCo (s : List Nat) : ∀ l : List (List Nat), kA (.str s) (l.map aFh) = some (match aKu s l with | true => some (.bool true) | false => none)
 | [] => rfl
 | w :: r => by
  show (match gW (.str s) (.str w) with | some true => some (some (V.bool true)) | some false => kA (.str s) (r.map aFh) | none => none) = _
  rw [show gW (.str s) (.str w) = some (decide (s = w)) from rfl]
  simp only [aKu]
  cases decide (s = w)
  ·exact aCo s r
  ·rfl
def tC (s : List Nat) (i : Nat) : Nat := i + 1 + aP cG (s.drop (i + 1))
def wI (s : List Nat) (i : Nat) : Bool := (match s[tC s i]? with | none => true | some c => !decide (c = 34)) || decide (aP cG (s.drop (i + 1)) > 200)
def sU (s : List Nat) (i : Nat) : Tk × Nat := match wI s i with
 | true => (zTk, 3)
 | false => (⟨3, i, tC s i + 1, []⟩, 0)
def mJ (r : Tk × Nat) : V := .tup [.agg (gT r.1), .int .i64 r.2]
theorem nD {D : Nat → Prop} (r : Tk × Nat) : (mJ r).In D := ⟨⟨trivial, trivial, trivial, trivial, trivial⟩, trivial, trivial⟩
theorem aSg {a b : Nat} (h : b ≤ a) (hb : a < big) : IntKind.i64.wrap ((a : Int) - (b : Int)) = ((a - b : Nat) : Int) := by
 unfold big at hb
 rw [wrap64 (by omega) (by omega)]; omega
theorem aCk (s : List Nat) (hl : s.length < big) (i : Nat) (hi : i < s.length) (h : H) :
  SCall Go.Proofs.Tryd.prog [] 48 [.str s, .int .i64 i] none h (.ret (mJ (sU s i))) none h := by
 refine SCall.dY rfl ?_ (by exact ⟨trivial, trivial, trivial⟩) (by exact nD _) h
 refine SCall.listed (fn := Go.Proofs.Tryd.f48) (by kernel_rfl) bAb (by kernel_rfl) (by kernel_rfl) (Nat.le_refl _) rfl (trivial) (by exact nD _) ?_
 unfold aXf
 have w1 := jN s 62 cG (fun c hc h => aEg c h) hl (i + 1) (by omega)
 have c1 := cI cG (s.drop (i + 1))
 rw [List.length_drop] at c1
 have hq : sU s i = match wI s i with
  | true => (zTk, 3)
  | false => (⟨3, i, tC s i + 1, []⟩, 0) := rfl
 have hb : wI s i = ((match s[tC s i]? with | none => true | some c => !decide (c = 34)) || decide (aP cG (s.drop (i + 1)) > 200)) := rfl
 unfold tC at hb hq
 generalize hn : aP cG (s.drop (i + 1)) = n at w1 c1 hb hq
 refine WR.seq (WR.reg (WQ.aA [] 1000 _ _ _ _ rfl (WQ.aB ?_)))
 refine WR.seq (WR.reg (WQ.aA [] 3 _ _ _ _ rfl ?_))
 rw [bS (by unfold big at hl ⊢; omega)]
 refine WQ.aE rfl rfl rfl rfl rfl (w1 _) .base rfl (WQ.aA [] 1000 _ _ _ _ rfl (WQ.aB ?_))
 refine WR.seq (WR.seq (WR.reg (WQ.aA [] 4 _ _ _ _ rfl ?_)))
 by_cases he : i + 1 + n = s.length
 ·rw [show decide (((i + 1 + n : Nat) : Int) = (s.length : Int)) = true from decide_eq_true (by omega)]
  rw [he, List.getElem?_eq_none (Nat.le_refl _), Bool.true_or] at hb
  rw [hq, hb]
  refine WQ.aA [] 1000 _ _ _ _ rfl (WQ.aB (WR.aK rfl ?_))
  repeat (first | refine WR.seq ?_ | refine WR.block ?_ | refine WR.scope ?_ | refine WR.skip ?_ | refine WR.exit ?_ | refine WR.aK rfl ?_ | refine WR.aG rfl ?_ | refine WR.reg (WQ.aA [] 1000 _ _ _ _ rfl ?_) | refine WQ.aB ?_ | refine WR.aW bE (DW.aA [] 1000 _ _ _ _ _ _ rfl ?_))
  refine WR.ret ⟨rfl, rfl, ⟨_, rfl, VLe.refl _⟩, fun b _ => rfl⟩
 ·rw [show decide (((i + 1 + n : Nat) : Int) = (s.length : Int)) = false from decide_eq_false (by omega)]
  obtain ⟨c, hc⟩ : ∃ c, s[i + 1 + n]? = some c := ⟨_, List.getElem?_eq_getElem (by omega)⟩
  rw [hc] at hb
  dsimp only at hb
  refine WQ.aA [] 3 _ _ _ _ rfl ?_
  refine WQ.bQ rfl rfl rfl (qO rfl rfl hc) rfl (WQ.aA [] 1 _ _ _ _ rfl ?_)
  by_cases h34 : c = 34
  ·rw [show (!decide ((c : Int) = 34)) = false from by simp; omega]
   rw [show (!decide (c = 34)) = false from by simp [h34], Bool.false_or] at hb
   refine WQ.aA [] 5 _ _ _ _ rfl ?_
   rw [aSg (by omega) (by omega)]
   refine WQ.aA [] 1 _ _ _ _ rfl ?_
   rw [show IntKind.i64.wrap (((i + 1 + n - i : Nat) : Int) - 1) = (n : Int) from by
    unfold big at hl
    rw [wrap64 (by omega) (by omega)]; omega]
   refine WQ.aA [] 1 _ _ _ _ rfl ?_
   by_cases h200 : n > 200
   ·rw [show decide ((n : Int) > 200) = true from decide_eq_true (by omega)]
    rw [decide_eq_true h200] at hb
    rw [hq, hb]
    refine WQ.aA [] 1000 _ _ _ _ rfl (WQ.aB (WR.aK rfl ?_))
    repeat (first | refine WR.seq ?_ | refine WR.block ?_ | refine WR.scope ?_ | refine WR.skip ?_ | refine WR.exit ?_ | refine WR.aK rfl ?_ | refine WR.aG rfl ?_ | refine WR.reg (WQ.aA [] 1000 _ _ _ _ rfl ?_) | refine WQ.aB ?_ | refine WR.aW bE (DW.aA [] 1000 _ _ _ _ _ _ rfl ?_))
    refine WR.ret ⟨rfl, rfl, ⟨_, rfl, VLe.refl _⟩, fun b _ => rfl⟩
   ·rw [show decide ((n : Int) > 200) = false from decide_eq_false (by omega)]
    rw [decide_eq_false h200] at hb
    rw [hq, hb]
    refine WQ.aA [] 1000 _ _ _ _ rfl (WQ.aB (WR.aG rfl (WR.skip ?_)))
    refine WR.seq (WR.reg (WQ.aA [] 3 _ _ _ _ rfl ?_))
    rw [bS (by omega)]
    refine WQ.aA [] 1000 _ _ _ _ rfl (WQ.aB ?_)
    refine WR.ret ⟨rfl, rfl, ⟨_, rfl, VLe.refl _⟩, fun b _ => rfl⟩
  ·rw [show (!decide ((c : Int) = 34)) = true from by simp; omega]
   rw [show (!decide (c = 34)) = true from by simp [h34], Bool.true_or] at hb
   rw [hq, hb]
   refine WQ.aA [] 1000 _ _ _ _ rfl (WQ.aB (WR.aK rfl ?_))
   repeat (first | refine WR.seq ?_ | refine WR.block ?_ | refine WR.scope ?_ | refine WR.skip ?_ | refine WR.exit ?_ | refine WR.aK rfl ?_ | refine WR.aG rfl ?_ | refine WR.reg (WQ.aA [] 1000 _ _ _ _ rfl ?_) | refine WQ.aB ?_ | refine WR.aW bE (DW.aA [] 1000 _ _ _ _ _ _ rfl ?_))
   refine WR.ret ⟨rfl, rfl, ⟨_, rfl, VLe.refl _⟩, fun b _ => rfl⟩
end Go.VM
end
section
/- Tokens: the one at a place. -/
set_option maxRecDepth 100000
set_option linter.unusedVariables false
set_option linter.unusedSimpArgs false
namespace Go.VM
open Go.RowKit
def aEm : List Nat := [40, 41, 123, 125, 91, 93, 44, 59, 46, 61, 60, 43, 45, 42, 33]
def aDk (n c : Nat) : Bool := decide (n > 15) || (decide (c = 48) && decide (n > 1))
def dR (s : List Nat) (i c : Nat) : Tk × Nat :=
 match eR c with
 | true =>
  let n := aP iW (s.drop i)
  (⟨match aIc ((s.drop i).take n) with | true => 5 | false => 1, i, i + n, []⟩, match decide (n > 40) with | true => 4 | false => 0)
 | false => match dD c with
  | true =>
   let n := aP dD (s.drop i)
   (⟨2, i, i + n, []⟩, match aDk n c with | true => 2 | false => 0)
  | false => match decide (c = 34) with
   | true => sU s i
   | false => match dM (s.drop i) [61, 61] || dM (s.drop i) [38, 38] with
    | true => (⟨4, i, i + 2, []⟩, 0)
    | false => match decide (ibV c aEm < 0) with
     | true => (⟨4, i, i + 1, []⟩, 1)
     | false => (⟨4, i, i + 1, []⟩, 0)
def wOl : OL := [(1000, .map tA)]
theorem qI {D : Nat → Prop} : ∀ l : List (List Nat), oJ D (l.map aFh)
 | [] => trivial
 | _ :: l => ⟨⟨trivial, trivial⟩, qI l⟩
theorem aAu {D : Nat → Prop} : fR D wOl := ⟨qI lS, trivial⟩
def aFm (k i e : Nat) : LM := [(8, [.int .i64 k, .int .i64 i, .int .i64 e, .str []]), (6, [.int .i64 0, .int .i64 0, .int .i64 0, .str []])]
def aRg (s : List Nat) (i c : Nat) : TM := [(0, .v (.str s)), (1, .v (.int .i64 i)), (2, .v (.map 1000)), (6, .l 6 0), (8, .l 8 0), (9, .v (.int .u8 c))]
theorem aQm {gl : List Nat} {nt nx : Nat} {tm : TM} {lc : LM} {x k : RX} {s : List Nat} (hx : rv gl tm x = some (.map 1000)) (hk : rv gl tm k = some (.str s)) : bR Go.Proofs.Tryd.prog gl nt tm ⟨nx, og wOl, lc⟩ (some (.lk x k false (.bool false) .str)) (.v (.bool (aIc s))) := by
 refine bD ?_
 simp only [dO, rl, hx, hk]
 show (match kA (.str s) (lS.map aFh) with | some (some v) => some (TV.v (mW false v true)) | some none => some (TV.v (mW false (.bool false) false)) | none => none) = _
 rw [aCo]
 show _ = some (TV.v (.bool (aKu s lS)))
 cases aKu s lS <;> rfl
theorem iD {s : List Nat} {i c : Nat} (h : eR c = true) : dR s i c = (⟨match aIc ((s.drop i).take (aP iW (s.drop i))) with | true => 5 | false => 1, i, i + aP iW (s.drop i), []⟩, match decide (aP iW (s.drop i) > 40) with | true => 4 | false => 0) := by
 unfold dR; rw [h]
theorem jB {s : List Nat} {i c : Nat} (h : eR c = false) (h2 : dD c = true) : dR s i c = (⟨2, i, i + aP dD (s.drop i), []⟩, match aDk (aP dD (s.drop i)) c with | true => 2 | false => 0) := by
 unfold dR; rw [h, h2]
theorem kM {s : List Nat} {i c : Nat} (h : eR c = false) (h2 : dD c = false) (h3 : c = 34) : dR s i c = sU s i := by
 unfold dR; rw [h, h2, decide_eq_true h3]
theorem mS {s : List Nat} {i c : Nat} (h : eR c = false) (h2 : dD c = false) (h3 : ¬ c = 34) (h4 : (dM (s.drop i) [61, 61] || dM (s.drop i) [38, 38]) = true) : dR s i c = (⟨4, i, i + 2, []⟩, 0) := by
 unfold dR; rw [h, h2, decide_eq_false h3, h4]
theorem jH {s : List Nat} {i c : Nat} (h : eR c = false) (h2 : dD c = false) (h3 : ¬ c = 34) (h4 : (dM (s.drop i) [61, 61] || dM (s.drop i) [38, 38]) = false) : dR s i c = (⟨4, i, i + 1, []⟩, match decide (ibV c aEm < 0) with | true => 1 | false => 0) := by
 unfold dR; rw [h, h2, decide_eq_false h3, h4]
 dsimp only
 cases decide (ibV c aEm < 0) <;> rfl
theorem vK {QN : S → Prop} {QX : X → S → Prop} {r : Tk × Nat} {s : List Nat} {c k i e : Nat} (hr : r = (⟨k, i, e, []⟩, 0)) (h1 : ∀ st, lX Go.Proofs.Tryd.prog Go.Proofs.Tryd.f31 (mJ r) 1001 wOl st → QX .ret st) (tm : TM) (ht : TellT tm (aFm k i e) (aRg s i c)) :
  WR Go.Proofs.Tryd.prog [] ⟨Go.Proofs.Tryd.f31.ntmps, none, 31⟩ oF (SL.toS ⟨tm, [], none, 1001, wOl, aFm k i e⟩) QN QX := by
 subst hr
 refine WR.weak (SW.bF ht (.cons rfl (.inl rfl) (.cons rfl (.inl rfl) .nil))) ?_
 unfold oF
 repeat (first | refine WR.seq ?_ | refine WR.block ?_ | refine WR.scope ?_ | refine WR.skip ?_ | refine WR.exit ?_ | refine WR.aK rfl ?_ | refine WR.aG rfl ?_ | refine WR.reg (WQ.aA [] 1000 _ _ _ _ rfl ?_) | refine WQ.aB ?_ | refine WR.aW bE (DW.aA [] 1000 _ _ _ _ _ _ rfl ?_))
 exact WR.ret (h1 _ ⟨rfl, rfl, ⟨_, rfl, VLe.refl _⟩, fun _ _ => rfl⟩)
theorem aEc (s : List Nat) (h8 : ∀ c ∈ s, c < 256) (hl : s.length < big) (i c : Nat) (hc : s[i]? = some c) :
  SCall Go.Proofs.Tryd.prog [] 31 [.str s, .int .i64 i, .map 1000] none ⟨1001, og wOl, []⟩ (.ret (mJ (dR s i c))) none ⟨1001, og wOl, []⟩ := by
 refine SCall.listed (fn := Go.Proofs.Tryd.f31) (by kernel_rfl) aXi (by kernel_rfl) (by kernel_rfl) (Nat.le_refl _) rfl (aAu) (by exact nD _) ?_
 unfold aWn
 have hi : i < s.length := (List.getElem?_eq_some_iff.1 hc).1
 have hc8 := h8 c (List.mem_of_getElem? hc)
 refine WR.seq (WR.reg (WQ.aA [] 1000 _ _ _ _ rfl (WQ.aB ?_)))
 refine WR.seq (WR.reg (WQ.aA [] 3 _ _ _ _ rfl ?_))
 rw [bS (by omega)]
 refine WQ.aA [] 1000 _ _ _ _ rfl (WQ.aB ?_)
 refine WR.seq (WR.seq (WR.reg (WQ.aA [] 2 _ _ _ _ rfl ?_)))
 refine WQ.bQ rfl rfl rfl (qO rfl rfl hc) rfl (WQ.aA [] 1000 _ _ _ _ rfl (WQ.aB ?_))
 refine WR.weak (s := SL.toS ⟨aRg s i c, [], none, 1001, wOl, aFm 4 i (i + 1)⟩) ?_ ?_
 ·refine SW.bF ?_ ?_
  ·repeat (first | exact .nil | refine .cons rfl (.v (VLe.refl _)) ?_ | refine .cons rfl (.l _ _ rfl) ?_ | refine .cons rfl (.v (VLe.unk _ _)) ?_)
  ·repeat (first | exact .nil | refine .cons rfl (.inl rfl) ?_)
 refine WR.block (WR.seq (WR.reg (WQ.aA [] 1 _ _ _ _ rfl ?_)))
 refine WQ.aE rfl rfl rfl rfl rfl (sN c _) .base rfl (WQ.aA [] 1000 _ _ _ _ rfl (WQ.aB ?_))
 cases hL : eR c with
 | true =>
  rw [iD hL]
  have w1 := jN s 46 iW (fun c hc h => aJw c h) hl i (by omega)
  have c1 := cI iW (s.drop i)
  rw [List.length_drop] at c1
  generalize aP iW (s.drop i) = n at w1 c1 ⊢
  refine WR.aK rfl ?_
  refine WR.seq (WR.reg (WQ.aA [] 2 _ _ _ _ rfl ?_))
  refine WQ.aE rfl rfl rfl rfl rfl (w1 _) .base rfl (WQ.aA [] 1000 _ _ _ _ rfl (WQ.aB ?_))
  refine WR.seq (WR.seq (WR.reg (WQ.aA [] 5 _ _ _ _ rfl ?_)))
  refine WQ.bQ rfl rfl rfl (yW rfl rfl rfl (by omega) (by omega)) rfl ?_
  rw [Nat.add_sub_cancel_left]
  refine WQ.bQ rfl rfl rfl (aQm rfl rfl) rfl (WQ.aB ?_)
  have fin : ∀ (k : Nat) (tm : TM), TellT tm (aFm k i (i + n)) (aRg s i c) → WR Go.Proofs.Tryd.prog [] ⟨Go.Proofs.Tryd.f31.ntmps, none, 31⟩ zP (SL.toS ⟨tm, [], none, 1001, wOl, aFm k i (i + n)⟩)
    (fun s1 => WR Go.Proofs.Tryd.prog [] ⟨Go.Proofs.Tryd.f31.ntmps, none, 31⟩ oF s1 (lX Go.Proofs.Tryd.prog Go.Proofs.Tryd.f31 (mJ (⟨k, i, i + n, []⟩, match decide (n > 40) with | true => 4 | false => 0)) 1001 wOl) (vQ (lX Go.Proofs.Tryd.prog Go.Proofs.Tryd.f31 (mJ (⟨k, i, i + n, []⟩, match decide (n > 40) with | true => 4 | false => 0)) 1001 wOl))) (sD 0 (fun s1 => WR Go.Proofs.Tryd.prog [] ⟨Go.Proofs.Tryd.f31.ntmps, none, 31⟩ oF s1 (lX Go.Proofs.Tryd.prog Go.Proofs.Tryd.f31 (mJ (⟨k, i, i + n, []⟩, match decide (n > 40) with | true => 4 | false => 0)) 1001 wOl) (vQ (lX Go.Proofs.Tryd.prog Go.Proofs.Tryd.f31 (mJ (⟨k, i, i + n, []⟩, match decide (n > 40) with | true => 4 | false => 0)) 1001 wOl))) (vQ (lX Go.Proofs.Tryd.prog Go.Proofs.Tryd.f31 (mJ (⟨k, i, i + n, []⟩, match decide (n > 40) with | true => 4 | false => 0)) 1001 wOl))) := by
   intro k tm ht
   refine WR.weak (SW.bF ht (.cons rfl (.inl rfl) (.cons rfl (.inl rfl) .nil))) ?_
   unfold zP
   refine WR.seq (WR.reg (WQ.aA [] 4 _ _ _ _ rfl ?_))
   rw [aSg (by omega) (by omega), Nat.add_sub_cancel_left]
   refine WQ.aA [] 1 _ _ _ _ rfl (WQ.aB ?_)
   by_cases h40 : n > 40
   ·rw [show decide ((n : Int) > 40) = true from decide_eq_true (by omega), decide_eq_true h40]
    refine WR.aK rfl ?_
    repeat (first | refine WR.seq ?_ | refine WR.block ?_ | refine WR.scope ?_ | refine WR.skip ?_ | refine WR.exit ?_ | refine WR.aK rfl ?_ | refine WR.aG rfl ?_ | refine WR.reg (WQ.aA [] 1000 _ _ _ _ rfl ?_) | refine WQ.aB ?_ | refine WR.aW bE (DW.aA [] 1000 _ _ _ _ _ _ rfl ?_))
    exact WR.ret ⟨rfl, rfl, ⟨_, rfl, VLe.refl _⟩, fun _ _ => rfl⟩
   ·rw [show decide ((n : Int) > 40) = false from decide_eq_false (by omega), decide_eq_false h40]
    refine WR.aG rfl (WR.skip ?_)
    refine vK (s := s) (c := c) rfl (fun st q => q) _ ?_
    repeat (first | exact .nil | refine .cons rfl (.v (VLe.refl _)) ?_ | refine .cons rfl (.l _ _ rfl) ?_)
  cases hw : aIc ((s.drop i).take n) with
  | true =>
   refine WR.aK rfl (WR.reg (WQ.aA [] 1000 _ _ _ _ rfl (WQ.aB ?_)))
   refine fin 5 _ ?_
   repeat (first | exact .nil | refine .cons rfl (.v (VLe.refl _)) ?_ | refine .cons rfl (.l _ _ rfl) ?_)
  | false =>
   refine WR.aG rfl (WR.skip ?_)
   refine fin 1 _ ?_
   repeat (first | exact .nil | refine .cons rfl (.v (VLe.refl _)) ?_ | refine .cons rfl (.l _ _ rfl) ?_)
 | false =>
 refine WR.aG rfl ?_
 refine WR.seq (WR.reg (WQ.aA [] 1 _ _ _ _ rfl ?_))
 refine WQ.aE rfl rfl rfl rfl rfl (oS c _) .base rfl (WQ.aA [] 1000 _ _ _ _ rfl (WQ.aB ?_))
 cases hD : dD c with
 | true =>
  rw [jB hL hD]
  have w1 := jN s 47 dD (fun c hc h => oS c h) hl i (by omega)
  have c1 := cI dD (s.drop i)
  rw [List.length_drop] at c1
  generalize aP dD (s.drop i) = n at w1 c1 ⊢
  refine WR.aK rfl ?_
  refine WR.seq (WR.reg (WQ.aA [] 2 _ _ _ _ rfl ?_))
  refine WQ.aE rfl rfl rfl rfl rfl (w1 _) .base rfl (WQ.aA [] 1000 _ _ _ _ rfl (WQ.aB ?_))
  refine WR.seq (WR.reg (WQ.aA [] 4 _ _ _ _ rfl ?_))
  rw [aSg (by omega) (by omega), Nat.add_sub_cancel_left]
  refine WQ.aA [] 1000 _ _ _ _ rfl (WQ.aB ?_)
  refine WR.seq (WR.reg (WQ.aA [] 2 _ _ _ _ rfl ?_))
  unfold aDk
  by_cases h15 : n > 15
  ·rw [show decide ((n : Int) > 15) = true from decide_eq_true (by omega), decide_eq_true h15, Bool.true_or]
   refine WQ.aA [] 1000 _ _ _ _ rfl (WQ.aB (WR.aK rfl ?_))
   repeat (first | refine WR.seq ?_ | refine WR.block ?_ | refine WR.scope ?_ | refine WR.skip ?_ | refine WR.exit ?_ | refine WR.aK rfl ?_ | refine WR.aG rfl ?_ | refine WR.reg (WQ.aA [] 1000 _ _ _ _ rfl ?_) | refine WQ.aB ?_ | refine WR.aW bE (DW.aA [] 1000 _ _ _ _ _ _ rfl ?_))
   exact WR.ret ⟨rfl, rfl, ⟨_, rfl, VLe.refl _⟩, fun _ _ => rfl⟩
  rw [show decide ((n : Int) > 15) = false from decide_eq_false (by omega), decide_eq_false h15, Bool.false_or]
  refine WQ.aA [] 3 _ _ _ _ rfl ?_
  by_cases h48 : c = 48
  ·rw [show decide ((c : Int) = 48) = true from decide_eq_true (by omega), decide_eq_true h48, Bool.true_and]
   refine WQ.aA [] 3 _ _ _ _ rfl ?_
   by_cases h1 : n > 1
   ·rw [show decide ((n : Int) > 1) = true from decide_eq_true (by omega), decide_eq_true h1]
    refine WQ.aA [] 1000 _ _ _ _ rfl (WQ.aB (WR.aK rfl ?_))
    repeat (first | refine WR.seq ?_ | refine WR.block ?_ | refine WR.scope ?_ | refine WR.skip ?_ | refine WR.exit ?_ | refine WR.aK rfl ?_ | refine WR.aG rfl ?_ | refine WR.reg (WQ.aA [] 1000 _ _ _ _ rfl ?_) | refine WQ.aB ?_ | refine WR.aW bE (DW.aA [] 1000 _ _ _ _ _ _ rfl ?_))
    exact WR.ret ⟨rfl, rfl, ⟨_, rfl, VLe.refl _⟩, fun _ _ => rfl⟩
   ·rw [show decide ((n : Int) > 1) = false from decide_eq_false (by omega), decide_eq_false h1]
    refine WQ.aA [] 1000 _ _ _ _ rfl (WQ.aB (WR.aG rfl (WR.skip ?_)))
    refine vK (s := s) (c := c) (k := 2) (i := i) (e := i + n) rfl (fun st q => q) _ ?_
    repeat (first | exact .nil | refine .cons rfl (.v (VLe.refl _)) ?_ | refine .cons rfl (.l _ _ rfl) ?_)
  ·rw [show decide ((c : Int) = 48) = false from decide_eq_false (by omega), decide_eq_false h48, Bool.false_and]
   refine WQ.aA [] 1000 _ _ _ _ rfl (WQ.aB (WR.aG rfl (WR.skip ?_)))
   refine vK (s := s) (c := c) (k := 2) (i := i) (e := i + n) rfl (fun st q => q) _ ?_
   repeat (first | exact .nil | refine .cons rfl (.v (VLe.refl _)) ?_ | refine .cons rfl (.l _ _ rfl) ?_)
 | false =>
 refine WR.aG rfl ?_
 refine WR.seq (WR.reg (WQ.aA [] 2 _ _ _ _ rfl ?_))
 by_cases h34 : c = 34
 ·rw [kM hL hD h34, show decide ((c : Int) = 34) = true from decide_eq_true (by omega)]
  have qs := aCk s hl i hi
  generalize sU s i = q at qs ⊢
  refine WQ.aA [] 1000 _ _ _ _ rfl (WQ.aB (WR.aK rfl ?_))
  refine WR.seq (WR.reg (WQ.aA [] 2 _ _ _ _ rfl ?_))
  refine WQ.aE rfl rfl rfl rfl rfl (qs _) .base rfl (WQ.aA [] 1000 _ _ _ _ rfl (WQ.aB ?_))
  exact WR.ret ⟨rfl, rfl, ⟨_, rfl, VLe.refl _⟩, fun _ _ => rfl⟩
 rw [show decide ((c : Int) = 34) = false from decide_eq_false (by omega)]
 refine WQ.aA [] 1000 _ _ _ _ rfl (WQ.aB (WR.aG rfl ?_))
 have p1 := uG (s.drop i) [61, 61]
 have p2 := uG (s.drop i) [38, 38]
 have two : (dM (s.drop i) [61, 61] || dM (s.drop i) [38, 38]) = true → ∀ tm : TM, TellT tm (aFm 4 i (i + 1)) (aRg s i c) → ∀ QN : S → Prop, (∀ s1, WR Go.Proofs.Tryd.prog [] ⟨Go.Proofs.Tryd.f31.ntmps, none, 31⟩ oF s1 (lX Go.Proofs.Tryd.prog Go.Proofs.Tryd.f31 (mJ (dR s i c)) 1001 wOl) (vQ (lX Go.Proofs.Tryd.prog Go.Proofs.Tryd.f31 (mJ (dR s i c)) 1001 wOl)) → QN s1) → ∀ QX,
   WR Go.Proofs.Tryd.prog [] ⟨Go.Proofs.Tryd.f31.ntmps, none, 31⟩ (.reg [.op (.fa (.t 8) 2) 82, .op (.ld (.t 82) none) 83, .op (.bin .add (.t 83) (.c (.int .i64 1))) 84, .op (.fa (.t 8) 2) 85, ⟨0, 0, some (.st (.t 85) (.t 84) 1), [], none, none⟩]) (SL.toS ⟨tm, [], none, 1001, wOl, aFm 4 i (i + 1)⟩) QN QX := by
  intro hp tm ht QN hq QX
  rw [mS hL hD h34 hp] at hq
  refine WR.weak (SW.bF ht (.cons rfl (.inl rfl) (.cons rfl (.inl rfl) .nil))) ?_
  refine WR.reg (WQ.aA [] 3 _ _ _ _ rfl ?_)
  rw [bS (by omega)]
  refine WQ.aA [] 1000 _ _ _ _ rfl (WQ.aB ?_)
  refine hq _ (vK (s := s) (c := c) (k := 4) (i := i) (e := i + 2) rfl (fun st q => q) _ ?_)
  repeat (first | exact .nil | refine .cons rfl (.v (VLe.refl _)) ?_ | refine .cons rfl (.l _ _ rfl) ?_)
 refine WR.seq (WR.reg (WQ.aA [] 2 _ _ _ _ rfl ?_))
 refine WQ.bQ rfl rfl rfl (uY rfl rfl (by omega)) rfl ?_
 refine WQ.aE rfl rfl rfl rfl rfl (p1 _) .base rfl ?_
 cases hp1 : dM (s.drop i) [61, 61] with
 | true =>
  refine WQ.aA [] 1000 _ _ _ _ rfl (WQ.aB (WR.aK rfl ?_))
  refine two (by rw [hp1, Bool.true_or]) _ ?_ _ (fun s1 q => q) _
  repeat (first | exact .nil | refine .cons rfl (.v (VLe.refl _)) ?_ | refine .cons rfl (.l _ _ rfl) ?_)
 | false =>
 refine WQ.aA [] 3 _ _ _ _ rfl ?_
 refine WQ.bQ rfl rfl rfl (uY rfl rfl (by omega)) rfl ?_
 refine WQ.aE rfl rfl rfl rfl rfl (p2 _) .base rfl ?_
 cases hp2 : dM (s.drop i) [38, 38] with
 | true =>
  refine WQ.aA [] 1000 _ _ _ _ rfl (WQ.aB (WR.aK rfl ?_))
  refine two (by rw [hp1, hp2, Bool.false_or]) _ ?_ _ (fun s1 q => q) _
  repeat (first | exact .nil | refine .cons rfl (.v (VLe.refl _)) ?_ | refine .cons rfl (.l _ _ rfl) ?_)
 | false =>
 rw [jH hL hD h34 (by rw [hp1, hp2, Bool.false_or])]
 refine WQ.aA [] 1000 _ _ _ _ rfl (WQ.aB (WR.aG rfl ?_))
 refine WR.seq (WR.reg (WQ.aA [] 1 _ _ _ _ rfl ?_))
 refine WQ.aE rfl rfl rfl rfl rfl (aGg aEm c hc8 _) .base rfl (WQ.aA [] 1 _ _ _ _ rfl ?_)
 cases hz : decide (ibV c aEm < 0) with
 | true =>
  refine WQ.aA [] 1000 _ _ _ _ rfl (WQ.aB (WR.aK rfl ?_))
  repeat (first | refine WR.seq ?_ | refine WR.block ?_ | refine WR.scope ?_ | refine WR.skip ?_ | refine WR.exit ?_ | refine WR.aK rfl ?_ | refine WR.aG rfl ?_ | refine WR.reg (WQ.aA [] 1000 _ _ _ _ rfl ?_) | refine WQ.aB ?_ | refine WR.aW bE (DW.aA [] 1000 _ _ _ _ _ _ rfl ?_))
  exact WR.ret ⟨rfl, rfl, ⟨_, rfl, VLe.refl _⟩, fun _ _ => rfl⟩
 | false =>
  refine WQ.aA [] 1000 _ _ _ _ rfl (WQ.aB (WR.aG rfl (WR.skip ?_)))
  refine vK (s := s) (c := c) (k := 4) (i := i) (e := i + 1) rfl (fun st q => q) _ ?_
  repeat (first | exact .nil | refine .cons rfl (.v (VLe.refl _)) ?_ | refine .cons rfl (.l _ _ rfl) ?_)
end Go.VM
end
