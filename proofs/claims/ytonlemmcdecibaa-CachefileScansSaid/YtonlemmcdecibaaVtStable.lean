/- laid for this seat: VtStable -/
import Derived.Test.YtonlemmcdecibaaVtMerge5
/- The stable sort of the library. -/
set_option maxRecDepth 100000
set_option linter.unusedVariables false
set_option linter.unusedSimpArgs false
namespace Go.VM
open Go.RowKit
def irow (K : Nat → Int) (n : Nat) : Nat → Nat → List Nat → Nat × List Nat
 | 0, a, xs => (a, xs)
 | f + 1, a, xs => if a + 20 ≤ n then irow K n f (a + 20) (insG K a (a + 20 - (a + 1)) (a + 1) xs) else (a, xs)
def mrow (K : Nat → Int) (n bs : Nat) : Nat → Nat → List Nat → Nat × List Nat
 | 0, a, xs => (a, xs)
 | f + 1, a, xs => if a + 2 * bs ≤ n then mrow K n bs f (a + 2 * bs) (symF K n a (a + bs) (a + 2 * bs) xs) else (a, xs)
def passF (K : Nat → Int) (n bs : Nat) (xs : List Nat) : List Nat :=
 if (mrow K n bs (n + 1) 0 xs).1 + bs < n then symF K n (mrow K n bs (n + 1) 0 xs).1 ((mrow K n bs (n + 1) 0 xs).1 + bs) n (mrow K n bs (n + 1) 0 xs).2 else (mrow K n bs (n + 1) 0 xs).2
def passes (K : Nat → Int) (n : Nat) : Nat → Nat → List Nat → List Nat
 | 0, _, xs => xs
 | f + 1, bs, xs => if bs < n then passes K n f (2 * bs) (passF K n bs xs) else xs
def stableF (K : Nat → Int) (n : Nat) (xs : List Nat) : List Nat :=
 passes K n (n + 1) 20 (insG K (irow K n (n + 1) 0 xs).1 (n - ((irow K n (n + 1) 0 xs).1 + 1)) ((irow K n (n + 1) 0 xs).1 + 1) (irow K n (n + 1) 0 xs).2)
theorem insG_len (K : Nat → Int) (a : Nat) : ∀ (m i : Nat) (xs : List Nat), (insG K a m i xs).length = xs.length
 | 0, _, _ => rfl
 | m + 1, i, xs => by unfold insG; rw [insG_len K a m, sinkF_len]
theorem insG_mem (K : Nat → Int) (a : Nat) : ∀ (m i : Nat) (xs : List Nat) (z : Nat), z ∈ insG K a m i xs → z ∈ xs
 | 0, _, _, _, h => h
 | m + 1, i, xs, z, h => by unfold insG at h; exact sinkF_mem _ _ _ _ _ (insG_mem K a m _ _ z h)
def GoodP (L : List EZ) (n : Nat) (xs : List Nat) : Prop := xs.length = n ∧ ∀ x ∈ xs, x < L.length
theorem GoodP.ins {L : List EZ} {n : Nat} {xs : List Nat} (h : GoodP L n xs) (K : Nat → Int) (a m i : Nat) : GoodP L n (insG K a m i xs) := ⟨by rw [insG_len]; exact h.1, fun x hx => h.2 x (insG_mem _ _ _ _ _ _ hx)⟩
theorem GoodP.sym {L : List EZ} {n : Nat} {xs : List Nat} (h : GoodP L n xs) (K : Nat → Int) (f a m b : Nat) : GoodP L n (symF K f a m b xs) := ⟨by rw [symF_len]; exact h.1, fun x hx => h.2 x (symF_mem _ _ _ _ _ _ _ hx)⟩
theorem GoodP.mrow {L : List EZ} {n : Nat} (K : Nat → Int) (k bs : Nat) : ∀ (f a : Nat) (xs : List Nat), GoodP L n xs → GoodP L n (mrow K k bs f a xs).2
 | 0, _, _, h => h
 | f + 1, a, xs, h => by
  unfold VM.mrow
  split
  ·exact GoodP.mrow K k bs f _ _ (h.sym K _ _ _ _)
  ·exact h
theorem GoodP.irow {L : List EZ} {n : Nat} (K : Nat → Int) (k : Nat) : ∀ (f a : Nat) (xs : List Nat), GoodP L n xs → GoodP L n (irow K k f a xs).2
 | 0, _, _, h => h
 | f + 1, a, xs, h => by
  unfold VM.irow
  split
  ·exact GoodP.irow K k f _ _ (h.ins K _ _ _)
  ·exact h
theorem GoodP.pass {L : List EZ} {n : Nat} {xs : List Nat} (h : GoodP L n xs) (K : Nat → Int) (k bs : Nat) : GoodP L n (passF K k bs xs) := by
 unfold passF
 split
 ·exact (GoodP.mrow K k bs _ _ _ h).sym K _ _ _ _
 ·exact GoodP.mrow K k bs _ _ _ h
theorem GoodP.passes {L : List EZ} {n : Nat} (K : Nat → Int) (k : Nat) : ∀ (f bs : Nat) (xs : List Nat), GoodP L n xs → GoodP L n (passes K k f bs xs)
 | 0, _, _, h => h
 | f + 1, a, xs, h => by
  unfold VM.passes
  split
  ·exact GoodP.passes K k f _ _ (h.pass K _ _)
  ·exact h
theorem GoodP.stable {L : List EZ} {n : Nat} {xs : List Nat} (h : GoodP L n xs) (K : Nat → Int) (k : Nat) : GoodP L n (stableF K k xs) := GoodP.passes K k _ _ _ ((GoodP.irow K k _ _ _ h).ins K _ _ _)
noncomputable def fr78 : Fr := ⟨Go.Proofs.Try.f78.ntmps, none, 78⟩
def kTm (a b bs n : Nat) : TM := [(0, .v (.sl 1001 0 n (.op 1))), (1, .v (.int .i64 n)), (2, .v (.fn (.func 66) [] [.ptr 1000 0])), (6, .v (.int .i64 bs)), (7, .v (.int .i64 a)), (8, .v (.int .i64 b))]
def kTm3 (bs n : Nat) : TM := [(0, .v (.sl 1001 0 n (.op 1))), (1, .v (.int .i64 n)), (2, .v (.fn (.func 66) [] [.ptr 1000 0])), (6, .v (.int .i64 bs))]
theorem w2 {x : Nat} (h : x ≤ 100000) : IntKind.i64.wrap ((2 : Int) * (x : Int)) = ((2 * x : Nat) : Int) := by rw [wrap64 (by omega) (by omega)]; omega
theorem w2' {x : Nat} (h : x ≤ 100000) : IntKind.i64.wrap ((x : Int) * (2 : Int)) = ((2 * x : Nat) : Int) := by rw [wrap64 (by omega) (by omega)]; omega
theorem wadd {x y : Nat} (h : x ≤ 1000000) (h2 : y ≤ 1000000) : IntKind.i64.wrap ((x : Int) + (y : Int)) = ((x + y : Nat) : Int) := by rw [wrap64 (by omega) (by omega)]; omega
theorem st1_loop {QN : S → Prop} {QX : X → S → Prop} (L : List EZ) (K : Nat → Int) (n : Nat) (hn : n ≤ 4000) (hK : ∀ x e, L[x]? = some e → K x = e.last) : ∀ (f a : Nat) (xs : List Nat), n < f + a → GoodP L n xs → a ≤ n →
  (∀ tm, tg tm 0 = some (.v (.sl 1001 0 n (.op 1))) → tg tm 1 = some (.v (.int .i64 n)) → tg tm 2 = some (.v (.fn (.func 66) [] [.ptr 1000 0])) → tg tm 6 = some (.v (.int .i64 (20 : Nat))) → tg tm 7 = some (.v (.int .i64 (irow K n f a xs).1)) → (irow K n f a xs).1 ≤ n → QX (.exit 0) (SL.toS ⟨tm, [], none, 1002, sol L (irow K n f a xs).2, []⟩)) →
  WLr Go.Proofs.Try.prog [] fr78 rc78_L1 (SL.toS ⟨kTm a (a + 20) 20 n, [], none, 1002, sol L xs, []⟩) QN QX := by
 intro f
 induction f with
 | zero => intro a xs h1 h2 h3; omega
 | succ f ih =>
  intro a xs hf hg ha hx
  unfold rc78_L1
  refine WLr.of ?_
  refine WR.seq (WR.seq (WR.reg (WQ.runS [] 1000 _ _ _ _ rfl (WQ.nilS ?_))))
  by_cases h1 : a + 20 ≤ n
  ·have hs : irow K n (f + 1) a xs = irow K n f (a + 20) (insG K a (a + 20 - (a + 1)) (a + 1) xs) := by simp only [irow, if_pos h1]
   rw [hs] at hx
   rw [show decide (((a + 20 : Nat) : Int) ≤ (n : Int)) = true from decide_eq_true (by omega)]
   refine WR.condT rfl (WR.skip ?_)
   refine WR.block (WR.seq (WR.reg (WQ.runS [] 4 _ _ _ _ rfl ?_)))
   refine WQ.callH rfl rfl rfl rfl rfl (ins_core L K a (a + 20) n hn h1 (by omega) hK xs hg.1 hg.2) .base rfl (WQ.runS [] 1000 _ _ _ _ rfl (WQ.nilS ?_))
   repeat (first | refine WR.seq ?_ | refine WR.block ?_ | refine WR.scope ?_ | refine WR.skip ?_ | refine WR.exit ?_ | refine WR.condT rfl ?_ | refine WR.condF rfl ?_ | refine WR.reg (WQ.runS [] 1000 _ _ _ _ rfl ?_) | refine WQ.nilS ?_ | refine WR.dreg hmix (DW.runS [] 1000 _ _ _ _ _ _ rfl ?_))
   rw [wadd (x := a + 20) (y := 20) (by omega) (by omega)]
   refine WIr.again (WLr.weak ?_ (ih (a + 20) _ (by omega) (hg.ins K _ _ _) h1 hx))
   refine SW.tellR ?_ ?_
   ·repeat (first | exact .nil | refine .cons rfl (.v (VLe.refl _)) ?_ | refine .cons rfl (.l _ _ rfl) ?_ | refine .cons rfl (.v (VLe.unk _ _)) ?_)
   ·repeat (first | exact .nil | refine .cons rfl (.inl rfl) ?_)
  ·have hs : irow K n (f + 1) a xs = (a, xs) := by simp only [irow, if_neg h1]
   rw [hs] at hx
   rw [show decide (((a + 20 : Nat) : Int) ≤ (n : Int)) = false from decide_eq_false (by omega)]
   refine WR.condF rfl (WR.exit ?_)
   exact hx _ rfl rfl rfl rfl rfl ha
theorem st2_loop {QN : S → Prop} {QX : X → S → Prop} (L : List EZ) (K : Nat → Int) (n bs : Nat) (hn : n ≤ 4000) (hK : ∀ x e, L[x]? = some e → K x = e.last) (hbs : bs < n) (hb0 : 0 < bs) : ∀ (f a : Nat) (xs : List Nat), n < f + a → GoodP L n xs → a ≤ n →
  (∀ tm, tg tm 0 = some (.v (.sl 1001 0 n (.op 1))) → tg tm 1 = some (.v (.int .i64 n)) → tg tm 2 = some (.v (.fn (.func 66) [] [.ptr 1000 0])) → tg tm 6 = some (.v (.int .i64 bs)) → tg tm 7 = some (.v (.int .i64 (mrow K n bs f a xs).1)) → (mrow K n bs f a xs).1 ≤ n → QX (.exit 4) (SL.toS ⟨tm, [], none, 1002, sol L (mrow K n bs f a xs).2, []⟩)) →
  WLr Go.Proofs.Try.prog [] fr78 rc78_L2 (SL.toS ⟨kTm a (a + 2 * bs) bs n, [], none, 1002, sol L xs, []⟩) QN QX := by
 intro f
 induction f with
 | zero => intro a xs h1 h2 h3; omega
 | succ f ih =>
  intro a xs hf hg ha hx
  unfold rc78_L2
  refine WLr.of ?_
  refine WR.seq (WR.seq (WR.reg (WQ.runS [] 1000 _ _ _ _ rfl (WQ.nilS ?_))))
  by_cases h1 : a + 2 * bs ≤ n
  ·have hs : mrow K n bs (f + 1) a xs = mrow K n bs f (a + 2 * bs) (symF K n a (a + bs) (a + 2 * bs) xs) := by simp only [mrow, if_pos h1]
   rw [hs] at hx
   rw [show decide (((a + 2 * bs : Nat) : Int) ≤ (n : Int)) = true from decide_eq_true (by omega)]
   refine WR.condT rfl (WR.skip ?_)
   refine WR.block (WR.seq (WR.reg (WQ.runS [] 7 _ _ _ _ rfl ?_)))
   rw [wadd (x := a) (y := bs) (by omega) (by omega)]
   refine WQ.callH rfl rfl rfl rfl rfl (sym_core L K n hn hK n a (a + bs) (a + 2 * bs) xs (by omega) (by omega) (by omega) h1 hg.1 hg.2) .base rfl (WQ.runS [] 1000 _ _ _ _ rfl (WQ.nilS ?_))
   refine WR.seq (WR.reg (WQ.runS [] 1000 _ _ _ _ rfl (WQ.nilS ?_)))
   refine WR.reg (WQ.runS [] 3 _ _ _ _ rfl ?_)
   rw [w2 (x := bs) (by omega)]
   refine WQ.runS [] 1000 _ _ _ _ rfl (WQ.nilS ?_)
   rw [wadd (x := a + 2 * bs) (y := 2 * bs) (by omega) (by omega)]
   refine WIr.again (WLr.weak ?_ (ih (a + 2 * bs) _ (by omega) (hg.sym K _ _ _ _) h1 hx))
   refine SW.tellR ?_ ?_
   ·repeat (first | exact .nil | refine .cons rfl (.v (VLe.refl _)) ?_ | refine .cons rfl (.l _ _ rfl) ?_ | refine .cons rfl (.v (VLe.unk _ _)) ?_)
   ·repeat (first | exact .nil | refine .cons rfl (.inl rfl) ?_)
  ·have hs : mrow K n bs (f + 1) a xs = (a, xs) := by simp only [mrow, if_neg h1]
   rw [hs] at hx
   rw [show decide (((a + 2 * bs : Nat) : Int) ≤ (n : Int)) = false from decide_eq_false (by omega)]
   refine WR.condF rfl (WR.exit ?_)
   exact hx _ rfl rfl rfl rfl rfl ha
theorem st3_loop {QN : S → Prop} {QX : X → S → Prop} (L : List EZ) (K : Nat → Int) (n : Nat) (hn : n ≤ 4000) (hK : ∀ x e, L[x]? = some e → K x = e.last) : ∀ (f bs : Nat) (xs : List Nat), n < f + bs → GoodP L n xs → 0 < bs → bs ≤ 8000 →
  (∀ tm, QX (.exit 2) (SL.toS ⟨tm, [], none, 1002, sol L (passes K n f bs xs), []⟩)) →
  WLr Go.Proofs.Try.prog [] fr78 rc78_L3 (SL.toS ⟨kTm3 bs n, [], none, 1002, sol L xs, []⟩) QN QX := by
 intro f
 induction f with
 | zero =>
  intro bs xs h1 h2 h3 h4 hx
  unfold rc78_L3
  refine WLr.of ?_
  refine WR.seq (WR.seq (WR.reg (WQ.runS [] 1000 _ _ _ _ rfl (WQ.nilS ?_))))
  rw [show decide ((bs : Int) < (n : Int)) = false from decide_eq_false (by omega)]
  refine WR.condF rfl (WR.exit ?_)
  exact hx _
 | succ f ih =>
  intro bs xs hf hg hb0 hb8 hx
  unfold rc78_L3
  refine WLr.of ?_
  refine WR.seq (WR.seq (WR.reg (WQ.runS [] 1000 _ _ _ _ rfl (WQ.nilS ?_))))
  by_cases h1 : bs < n
  ·have hs : passes K n (f + 1) bs xs = passes K n f (2 * bs) (passF K n bs xs) := by simp only [passes, if_pos h1]
   rw [hs] at hx
   rw [show decide ((bs : Int) < (n : Int)) = true from decide_eq_true (by omega)]
   refine WR.condT rfl (WR.skip ?_)
   refine WR.block (WR.seq (WR.reg (WQ.runS [] 1000 _ _ _ _ rfl (WQ.nilS ?_))))
   rw [w2 (x := bs) (by omega)]
   have hend : ∀ tm (QN' : S → Prop) (QX' : X → S → Prop), tg tm 0 = some (.v (.sl 1001 0 n (.op 1))) → tg tm 1 = some (.v (.int .i64 n)) → tg tm 2 = some (.v (.fn (.func 66) [] [.ptr 1000 0])) → tg tm 6 = some (.v (.int .i64 bs)) → (∀ tm', tg tm' 0 = some (.v (.sl 1001 0 n (.op 1))) → tg tm' 1 = some (.v (.int .i64 n)) → tg tm' 2 = some (.v (.fn (.func 66) [] [.ptr 1000 0])) → tg tm' 6 = some (.v (.int .i64 (2 * bs : Nat))) → QN' (SL.toS ⟨tm', [], none, 1002, sol L (passF K n bs xs), []⟩)) →
     WR Go.Proofs.Try.prog [] fr78 rc78_J1 (SL.toS ⟨tm, [], none, 1002, sol L (passF K n bs xs), []⟩) QN' QX' := by
    intro tm QN' QX' g0 g1 g2 g6 hq
    refine WR.weak (s := SL.toS ⟨kTm3 bs n, [], none, 1002, sol L (passF K n bs xs), []⟩) (SW.tellR (.cons g0 (.v (VLe.refl _)) (.cons g1 (.v (VLe.refl _)) (.cons g2 (.v (VLe.refl _)) (.cons g6 (.v (VLe.refl _)) .nil)))) .nil) ?_
    unfold rc78_J1
    refine WR.reg (WQ.runS [] 1000 _ _ _ _ rfl (WQ.nilS ?_))
    rw [w2' (x := bs) (by omega)]
    exact hq _ rfl rfl rfl rfl
   refine WR.seq (WR.block (WR.loop (WLr.weak (s := SL.toS ⟨kTm 0 (0 + 2 * bs) bs n, [], none, 1002, sol L xs, []⟩) ?_ (st2_loop L K n bs hn hK h1 hb0 (n + 1) 0 xs (by omega) hg (by omega) (fun tm t0 t1 t2 t6 t7 hle => ?_)))))
   ·rw [Nat.zero_add]
    refine SW.tellR ?_ ?_
    ·repeat (first | exact .nil | refine .cons rfl (.v (VLe.refl _)) ?_ | refine .cons rfl (.l _ _ rfl) ?_ | refine .cons rfl (.v (VLe.unk _ _)) ?_)
    ·repeat (first | exact .nil | refine .cons rfl (.inl rfl) ?_)
   unfold rc78_J2
   have hq : ∀ tm', tg tm' 0 = some (.v (.sl 1001 0 n (.op 1))) → tg tm' 1 = some (.v (.int .i64 n)) → tg tm' 2 = some (.v (.fn (.func 66) [] [.ptr 1000 0])) → tg tm' 6 = some (.v (.int .i64 (2 * bs : Nat))) → WLr Go.Proofs.Try.prog [] fr78 rc78_L3 (SL.toS ⟨tm', [], none, 1002, sol L (passF K n bs xs), []⟩) QN QX := by
    intro tm' g0 g1 g2 g6
    exact WLr.weak (SW.tellR (.cons g0 (.v (VLe.refl _)) (.cons g1 (.v (VLe.refl _)) (.cons g2 (.v (VLe.refl _)) (.cons g6 (.v (VLe.refl _)) .nil)))) .nil) (ih (2 * bs) _ (by omega) (hg.pass K _ _) (by omega) (by omega) hx)
   have gm : GoodP L n (mrow K n bs (n + 1) 0 xs).2 := GoodP.mrow K n bs (n + 1) 0 xs hg
   have hpass : passF K n bs xs = if (mrow K n bs (n + 1) 0 xs).1 + bs < n then symF K n (mrow K n bs (n + 1) 0 xs).1 ((mrow K n bs (n + 1) 0 xs).1 + bs) n (mrow K n bs (n + 1) 0 xs).2 else (mrow K n bs (n + 1) 0 xs).2 := rfl
   generalize mrow K n bs (n + 1) 0 xs = z at *
   obtain ⟨a, ys⟩ := z
   refine WR.weak (s := SL.toS ⟨[(0, .v (.sl 1001 0 n (.op 1))), (1, .v (.int .i64 n)), (2, .v (.fn (.func 66) [] [.ptr 1000 0])), (6, .v (.int .i64 bs)), (7, .v (.int .i64 a))], [], none, 1002, sol L ys, []⟩) (SW.tellR (.cons t0 (.v (VLe.refl _)) (.cons t1 (.v (VLe.refl _)) (.cons t2 (.v (VLe.refl _)) (.cons t6 (.v (VLe.refl _)) (.cons t7 (.v (VLe.refl _)) .nil))))) .nil) ?_
   refine WR.seq (WR.seq (WR.reg (WQ.runS [] 1000 _ _ _ _ rfl (WQ.nilS ?_))))
   rw [wadd (x := a) (y := bs) (by simp only at hle; omega) (by omega)]
   refine WR.seq (WR.reg (WQ.runS [] 1000 _ _ _ _ rfl (WQ.nilS ?_)))
   by_cases h2 : a + bs < n
   ·rw [if_pos h2] at hpass
    rw [show decide (((a + bs : Nat) : Int) < (n : Int)) = true from decide_eq_true (by omega)]
    refine WR.condT rfl (WR.reg (WQ.runS [] 5 _ _ _ _ rfl ?_))
    refine WQ.callH rfl rfl rfl rfl rfl (sym_core L K n hn hK n a (a + bs) n ys (by omega) (by omega) (by omega) (by omega) gm.1 gm.2) .base rfl (WQ.runS [] 1000 _ _ _ _ rfl (WQ.nilS ?_))
    rw [show symF K n a (a + bs) n ys = passF K n bs xs from hpass.symm]
    refine hend _ _ _ rfl rfl rfl rfl (fun tm' g0 g1 g2 g6 => ?_)
    exact WIr.again (hq tm' g0 g1 g2 g6)
   ·rw [if_neg h2] at hpass
    rw [show decide (((a + bs : Nat) : Int) < (n : Int)) = false from decide_eq_false (by omega)]
    refine WR.condF rfl (WR.skip ?_)
    rw [show ys = passF K n bs xs from hpass.symm]
    refine hend _ _ _ rfl rfl rfl rfl (fun tm' g0 g1 g2 g6 => ?_)
    exact WIr.again (hq tm' g0 g1 g2 g6)
  ·have hs : passes K n (f + 1) bs xs = xs := by simp only [passes, if_neg h1]
   rw [hs] at hx
   rw [show decide ((bs : Int) < (n : Int)) = false from decide_eq_false (by omega)]
   refine WR.condF rfl (WR.exit ?_)
   exact hx _
theorem stable_core (L : List EZ) (K : Nat → Int) (n : Nat) (hn : n ≤ 4000) (hK : ∀ x e, L[x]? = some e → K x = e.last) (xs : List Nat) (hg : GoodP L n xs) :
  SCall Go.Proofs.Try.prog [] 78 [.sl 1001 0 n (.op 1), .int .i64 n, .fn (.func 66) [] [.ptr 1000 0]] none ⟨1002, og (sol L xs), []⟩ (.ret (.tup [])) none ⟨1002, og (sol L (stableF K n xs)), []⟩ := by
 refine SCall.listed (fn := Go.Proofs.Try.f78) (by kernel_rfl) res78 (by kernel_rfl) (by kernel_rfl) (Nat.le_refl _) rfl ((by exact ⟨⟨⟨encZs_in _, trivial⟩, trivial⟩, ints_in _, trivial⟩)) trivial ?_
 unfold rc78
 refine WR.seq (WR.reg (WQ.runS [] 1000 _ _ _ _ rfl (WQ.nilS ?_)))
 refine WR.seq (WR.reg (WQ.runS [] 1000 _ _ _ _ rfl (WQ.nilS ?_)))
 refine WR.seq (WR.block (WR.loop (WLr.weak (s := SL.toS ⟨kTm 0 (0 + 20) 20 n, [], none, 1002, sol L xs, []⟩) ?_ (st1_loop L K n hn hK (n + 1) 0 xs (by omega) hg (by omega) (fun tm t0 t1 t2 t6 t7 hle => ?_)))))
 ·refine SW.tellR ?_ ?_
  ·repeat (first | exact .nil | refine .cons rfl (.v (VLe.refl _)) ?_ | refine .cons rfl (.l _ _ rfl) ?_ | refine .cons rfl (.v (VLe.unk _ _)) ?_)
  ·repeat (first | exact .nil | refine .cons rfl (.inl rfl) ?_)
 have gm : GoodP L n (irow K n (n + 1) 0 xs).2 := GoodP.irow K n (n + 1) 0 xs hg
 have hst : stableF K n xs = passes K n (n + 1) 20 (insG K (irow K n (n + 1) 0 xs).1 (n - ((irow K n (n + 1) 0 xs).1 + 1)) ((irow K n (n + 1) 0 xs).1 + 1) (irow K n (n + 1) 0 xs).2) := rfl
 generalize irow K n (n + 1) 0 xs = z at *
 obtain ⟨a, ys⟩ := z
 rw [hst]
 refine WR.weak (s := SL.toS ⟨[(0, .v (.sl 1001 0 n (.op 1))), (1, .v (.int .i64 n)), (2, .v (.fn (.func 66) [] [.ptr 1000 0])), (6, .v (.int .i64 (20 : Nat))), (7, .v (.int .i64 a))], [], none, 1002, sol L ys, []⟩) (SW.tellR (.cons t0 (.v (VLe.refl _)) (.cons t1 (.v (VLe.refl _)) (.cons t2 (.v (VLe.refl _)) (.cons t6 (.v (VLe.refl _)) (.cons t7 (.v (VLe.refl _)) .nil))))) .nil) ?_
 unfold rc78_J3
 refine WR.seq (WR.reg (WQ.runS [] 4 _ _ _ _ rfl ?_))
 refine WQ.callH rfl rfl rfl rfl rfl (ins_core L K a n n hn (Nat.le_refl _) (by simp only at hle; omega) hK ys gm.1 gm.2) .base rfl (WQ.runS [] 1000 _ _ _ _ rfl (WQ.nilS ?_))
 refine WR.block (WR.loop (WLr.weak (s := SL.toS ⟨kTm3 20 n, [], none, 1002, sol L (insG K a (n - (a + 1)) (a + 1) ys), []⟩) ?_ (st3_loop L K n hn hK (n + 1) 20 (insG K a (n - (a + 1)) (a + 1) ys) (by omega) (gm.ins K _ _ _) (by omega) (by omega) (fun tm => ?_))))
 ·refine SW.tellR ?_ ?_
  ·repeat (first | exact .nil | refine .cons rfl (.v (VLe.refl _)) ?_ | refine .cons rfl (.l _ _ rfl) ?_ | refine .cons rfl (.v (VLe.unk _ _)) ?_)
  ·repeat (first | exact .nil | refine .cons rfl (.inl rfl) ?_)
 ·exact ⟨rfl, rfl, ⟨_, rfl, VLe.refl _⟩, fun b _ => rfl⟩
theorem sort_core (L : List EZ) (K : Nat → Int) (n : Nat) (hn : n ≤ 4000) (hK : ∀ x e, L[x]? = some e → K x = e.last) (xs : List Nat) (hg : GoodP L n xs) :
  SCall Go.Proofs.Try.prog [] 65 [.sl 1001 0 n (.op 1), .fn (.func 66) [] [.ptr 1000 0]] none ⟨1002, og (sol L xs), []⟩ (.ret (.tup [])) none ⟨1002, og (sol L (stableF K n xs)), []⟩ := by
 refine SCall.listed (fn := Go.Proofs.Try.f65) (by kernel_rfl) res65 (by kernel_rfl) (by kernel_rfl) (Nat.le_refl _) rfl ((by exact ⟨⟨⟨encZs_in _, trivial⟩, trivial⟩, ints_in _, trivial⟩)) trivial ?_
 unfold rc65
 refine WR.reg (WQ.runS [] 4 _ _ _ _ rfl ?_)
 refine WQ.callH rfl rfl rfl rfl rfl (stable_core L K n hn hK xs hg) .base rfl (WQ.runS [] 1000 _ _ _ _ rfl (WQ.nilS ?_))
 exact ⟨rfl, rfl, ⟨_, rfl, VLe.refl _⟩, fun b _ => rfl⟩
end Go.VM
