/- laid for this seat: VcLasts2 VcLasts3 VcAwake VcAwake2 -/
import Derived.Test.YtonlemmcdecibaaVg17
import Derived.Test.YtonlemmcdecibaaVg16
section
/- CachefileLasts: the loop. -/
set_option maxRecDepth 100000
set_option linter.unusedVariables false
set_option linter.unusedSimpArgs false
namespace Go.VM
open Go.RowKit
theorem keysC_small {C : CSt} (g : GoodC C) {d : Dk} {x n z : Nat} (bud : Bud d C x n z) : (keysC C).length ≤ 1000000 ∧ ∀ k ∈ keysC C, k.length ≤ 1000000 := by
 rw [← keysC_eq g]
 refine ⟨?_, fun k hk => ?_⟩
 ·rw [List.length_map]
  have h1 := keptF_len C.L C.most C.bytes
  have h2 := bud.L
  omega
 ·obtain ⟨i, h1, h2⟩ := List.mem_map.1 hk
  have hlt := keptF_mem h1
  have he := List.getElem?_eq_getElem hlt
  have hs := bud.sz _ (List.mem_of_getElem? he)
  rw [← h2]
  unfold keyL
  rw [he]
  unfold sizeZ at hs
  show (C.L[i]).k.length ≤ _
  omega
structure LInv (most bytes : Int) (d : Dk) (C : CSt) (ms : List (List Nat)) (nx c r m : Nat) : Prop where
 rel : Rel d C
 good : GoodC C
 fine : Fine d
 hm : C.most = most
 hb : C.bytes = bytes
 keys : keysC C = ms
 at_ : At nx c r
 bud : Bud d C (3400000 * m) m (7000 * m)
theorem OO_low {d : Dk} {C : CSt} {nx c r : Nat} (a : At nx c r) (b : Nat) (hb : b < 1000) : og [] b = og (OO d C c r) b := by
 obtain ⟨h1, h2, h3, h4, h5⟩ := a
 rw [OO_get, if_neg (by omega), if_neg (by omega), if_neg (by omega), if_neg (by omega)]; rfl
def laTm (l : List (List Nat)) (most bytes again : Int) (c i : Nat) : TM := [(0, .v (.int .i64 most)), (1, .v (.int .i64 bytes)), (2, .v (.lst (l.map kst) .unk)), (3, .v (.int .i64 again)), (10, .v (.ptr 1000 0)), (11, .v (.ptr c 0)), (12, .v (.int .i64 0)), (13, .l 13 0), (14, .v (.int .i64 i))]
def laLc (ms : List (List Nat)) (most bytes : Int) : LM := [(13, [.lst (ms.map kst) .unk, .int .i64 most, .int .i64 bytes])]
theorem lasts_loop {QN : S → Prop} {QX : X → S → Prop} (l : List (List Nat)) (most bytes again : Int) (hm : 0 ≤ most) (hb : 0 ≤ bytes) (hb2 : bytes < 9223372036854775808) (h8 : ∀ k ∈ l, ∀ c ∈ k, c < 256)
  (h0 : ∀ tm nx ol lc, (∀ b, b < 1000 → og [] b = og ol b) → QX (.exit 0) (SL.toS ⟨tm, [], none, nx, ol, lc⟩))
  (h1 : ∀ s, RetS Go.Proofs.Try.prog Go.Proofs.Try.f5 (.bool true) 1000 [] s → QX .ret s) : ∀ (m i : Nat) (d : Dk) (C : CSt) (ms : List (List Nat)) (nx c r : Nat), i + m = 60 → LInv most bytes d C ms nx c r m →
  WLr Go.Proofs.Try.prog [] ⟨Go.Proofs.Try.f5.ntmps, none, 5⟩ rc5_L1 (SL.toS ⟨laTm l most bytes again c i, [], none, nx, OO d C c r, laLc ms most bytes⟩) QN QX := by
 have hll : (l.map kst).length = l.length := List.length_map ..
 intro m
 induction m with
 | zero =>
  intro i d C ms nx c r hi v
  unfold rc5_L1
  refine WLr.of ?_
  refine WR.seq (WR.seq (WR.reg (WQ.runS [] 4 _ _ _ _ rfl ?_)))
  by_cases hlt : i < l.length
  ·rw [show decide ((i : Int) < ((l.map kst).length : Int)) = true from decide_eq_true (by omega)]
   refine WQ.runS [] 3 _ _ _ _ rfl ?_
   rw [show decide ((i : Int) < 60) = false from decide_eq_false (by omega)]
   refine WQ.runS [] 1000 _ _ _ _ rfl (WQ.nilS (WR.condF rfl (WR.exit ?_)))
   exact h0 _ _ _ _ (OO_low v.at_)
  ·rw [show decide ((i : Int) < ((l.map kst).length : Int)) = false from decide_eq_false (by omega)]
   refine WQ.runS [] 1000 _ _ _ _ rfl (WQ.nilS (WR.condF rfl (WR.exit ?_)))
   exact h0 _ _ _ _ (OO_low v.at_)
 | succ m ih =>
  intro i d C ms nx c r hi v
  unfold rc5_L1
  refine WLr.of ?_
  refine WR.seq (WR.seq (WR.reg (WQ.runS [] 4 _ _ _ _ rfl ?_)))
  by_cases hlt : i < l.length
  ·rw [show decide ((i : Int) < ((l.map kst).length : Int)) = true from decide_eq_true (by omega)]
   refine WQ.runS [] 3 _ _ _ _ rfl ?_
   rw [show decide ((i : Int) < 60) = true from decide_eq_true (by omega)]
   refine WQ.runS [] 1000 _ _ _ _ rfl (WQ.nilS (WR.condT rfl (WR.skip ?_)))
   obtain ⟨k, hk⟩ : ∃ k, l[i]? = some k := ⟨_, List.getElem?_eq_getElem hlt⟩
   have g0 : (l.map kst)[i]? = some (kst k) := by rw [List.getElem?_map, hk]; rfl
   refine WR.seq (WR.block (WR.seq (WR.seq (WR.reg (WQ.runS [] 2 _ _ _ _ rfl ?_)))))
   refine WQ.lightS rfl rfl rfl (ia_at rfl rfl g0 rfl) rfl (WQ.runS [] 3 _ _ _ _ rfl ?_)
   by_cases hbig : (k.length : Int) > 200
   ·rw [show decide ((k.length : Int) > 200) = true from decide_eq_true hbig]
    refine WQ.runS [] 1000 _ _ _ _ rfl (WQ.nilS (WR.condT rfl ?_))
    refine WR.seq (WR.reg (WQ.runS [] 1000 _ _ _ _ rfl (WQ.nilS ?_)))
    exact WR.ret (h1 _ ⟨rfl, rfl, ⟨_, rfl, VLe.refl _⟩, fun b hb => OO_low v.at_ b hb⟩)
   ·rw [show decide ((k.length : Int) > 200) = false from decide_eq_false hbig]
    refine WQ.runS [] 1000 _ _ _ _ rfl (WQ.nilS (WR.condF rfl (WR.skip ?_)))
    obtain ⟨rel, good, fine, hmo, hby, keys, at_, bud⟩ := v
    have bud' : Bud d C (3400000 * m + 3400000) (m + 1) (7000 * m + 7000) := bud.mono (by omega) (by omega) (by omega)
    have hk333 : k.length ≤ 333 := by omega
    obtain ⟨b1, b2, b3⟩ := asks_stp k hk333 bud'
    obtain ⟨t1, t2, t3, t4, t5⟩ := asks_keys (x := 0) (n := 0) (z := 0) rel good k hk333 (h8 k (List.mem_of_getElem? hk)) (bud'.mono (by omega) (by omega) (by omega)) (by rw [hmo]; exact hm)
    obtain ⟨sc, at2⟩ := asks_at (lc := laLc ms most bytes) at_ k hk333 (bud'.mono (by omega) (by omega) (by omega))
    have hok := (t3 fine).1
    have hfine := (t3 fine).2
    have hkeys := t4 hok
    rw [hmo, hby, keys] at hkeys
    obtain ⟨sm1, sm2⟩ := keysC_small good bud'
    rw [keys] at sm1 sm2
    have asd := asked_spec ms most bytes k sm1 sm2 (by omega) (by omega) hb2
    rw [hok] at sc
    generalize asksP d C k = T at *
    obtain ⟨d1, C1, e1⟩ := T
    dsimp only at b1 b2 b3 t1 t2 t3 t4 t5 sc hok hfine hkeys
    generalize asksRow nx r d C k = r1 at *
    generalize nx + asksN d C k = nx1 at *
    obtain ⟨sn1, sn2⟩ := keysC_small t2 b1
    rw [hkeys] at sn1 sn2
    have hold := holds_at (d := d1) (C := C1) (lc := laLc (askF most bytes ms k) most bytes) at2 b1.comp.cf (askF most bytes ms k) most bytes sn1 sn2
    have hh := holds_keys t2
    rw [hkeys] at hh
    rw [hh] at hold
    refine WR.seq (WR.reg (WQ.runS [] 3 _ _ _ _ rfl ?_))
    refine WQ.lightS rfl rfl rfl (ia_at rfl rfl g0 rfl) rfl (WQ.runS [] 1 _ _ _ _ rfl ?_)
    refine WQ.callH rfl rfl rfl rfl rfl sc .base rfl (WQ.runS [] 1000 _ _ _ _ rfl (WQ.nilS ?_))
    refine WR.seq (WR.dreg hmix (DW.runS [] 3 _ _ _ _ _ _ rfl ?_))
    refine DW.lightS rfl (ia_at rfl rfl g0 rfl) rfl (DW.runS [] 1 _ _ _ _ _ _ rfl ?_)
    refine DW.callH (by repeat (first | exact .nil | refine PendR.passM rfl ?_ | refine PendR.sameM rfl ?_ | refine PendR.lightM rfl ?_)) rfl rfl rfl rfl rfl (asd _) .base rfl (DW.runS [] 1 _ _ _ _ _ _ rfl ?_)
    refine DW.stS (by repeat (first | exact .nil | refine PendR.passM rfl ?_ | refine PendR.sameM rfl ?_ | refine PendR.lightM rfl ?_)) rfl rfl rfl rfl ?_
    refine DW.runS [] 1000 _ _ _ _ _ _ rfl ?_
    refine DW.finS (by repeat (first | exact .nil | refine PendR.passM rfl ?_ | refine PendR.sameM rfl ?_ | refine PendR.lightM rfl ?_)) ?_
    have v1 : LInv most bytes d1 C1 (askF most bytes ms k) nx1 c r1 m := ⟨t1, t2, hfine, b2.trans hmo, b3.trans hby, hkeys, at2, b1⟩
    generalize hms : askF most bytes ms k = ms1 at *
    refine WR.weak (s := SL.toS ⟨(15, .v (.int .i64 0)) :: laTm l most bytes again c i, [], none, nx1, OO d1 C1 c r1, laLc ms1 most bytes⟩) ?_ ?_
    ·refine SW.tellR ?_ ?_
     ·repeat (first | exact .nil | refine .cons rfl (.v (VLe.refl _)) ?_ | refine .cons rfl (.l _ _ rfl) ?_ | refine .cons rfl (.v (VLe.unk _ _)) ?_)
     ·repeat (first | exact .nil | refine .cons rfl (.inl rfl) ?_)
    have hnext : IntKind.i64.wrap ((i : Int) + 1) = ((i + 1 : Nat) : Int) := by rw [wrap64 (by omega) (by omega)]; rfl
    have fin : ∀ (tm : TM) (c2 r2 nx2 : Nat), At nx2 c2 r2 → TellT tm (laLc ms1 most bytes) (laTm l most bytes again c2 i) → WR Go.Proofs.Try.prog [] ⟨Go.Proofs.Try.f5.ntmps, none, 5⟩ rc5_J1 (SL.toS ⟨tm, [], none, nx2, OO d1 C1 c2 r2, laLc ms1 most bytes⟩) (fun s1 => WIr Go.Proofs.Try.prog [] ⟨Go.Proofs.Try.f5.ntmps, none, 5⟩ rc5_L1 s1 QN QX) QX := by
     intro tm c2 r2 nx2 a2 ht
     refine WR.weak (s := SL.toS ⟨laTm l most bytes again c2 i, [], none, nx2, OO d1 C1 c2 r2, laLc ms1 most bytes⟩) (SW.tellR ht (.cons rfl (.inl rfl) .nil)) ?_
     unfold rc5_J1
     refine WR.reg (WQ.runS [] 1000 _ _ _ _ rfl (WQ.nilS ?_))
     rw [hnext]
     refine WIr.again (WLr.weak ?_ (ih (i + 1) d1 C1 ms1 nx2 c2 r2 (by omega) ⟨v1.rel, v1.good, v1.fine, v1.hm, v1.hb, v1.keys, a2, v1.bud⟩))
     refine SW.tellR ?_ ?_
     ·repeat (first | exact .nil | refine .cons rfl (.v (VLe.refl _)) ?_ | refine .cons rfl (.l _ _ rfl) ?_ | refine .cons rfl (.v (VLe.unk _ _)) ?_)
     ·repeat (first | exact .nil | refine .cons rfl (.inl rfl) ?_)
    refine WR.seq (WR.reg (WQ.runS [] 2 _ _ _ _ rfl ?_))
    refine WQ.callH rfl rfl rfl rfl rfl hold .base rfl (WQ.runS [] 1000 _ _ _ _ rfl (WQ.nilS ?_))
    refine WR.seq (WR.seq (WR.reg (WQ.runS [] 1000 _ _ _ _ rfl (WQ.nilS (WR.condF rfl (WR.skip ?_))))))
    refine WR.seq (WR.reg (WQ.runS [] 2 _ _ _ _ rfl ?_))
    by_cases hag : again > 0
    ·rw [show decide (again > 0) = true from decide_eq_true hag]
     obtain ⟨g, hg⟩ : ∃ g : Nat, again = ((g + 1 : Nat) : Int) := ⟨(again - 1).toNat, by omega⟩
     subst hg
     refine WQ.runS [] 3 _ _ _ _ rfl ?_
     refine WQ.lightS rfl rfl rfl (rem_nat2 (a := i) (m := g) rfl rfl) rfl (WQ.runS [] 1 _ _ _ _ rfl ?_)
     by_cases hz : i % (g + 1) = 0
     ·rw [show decide (((i % (g + 1) : Nat) : Int) = 0) = true from decide_eq_true (by omega)]
      refine WQ.runS [] 1000 _ _ _ _ rfl (WQ.nilS (WR.condT rfl ?_))
      refine WR.weak (kill_OO (t := 11) v1.at_ rfl) ?_
      obtain ⟨op, at3⟩ := open_at (nx := nx1) (lc := laLc ms1 most bytes) (by have := v1.at_.c0; have := v1.at_.cn; omega) v1.rel v1.fine.1 v1.bud (by rw [v1.hm]; exact hm) (by rw [v1.hb]; exact hb)
      rw [v1.hm, v1.hb] at op
      refine WR.seq (WR.reg (WQ.runS [] 3 _ _ _ _ rfl ?_))
      refine WQ.callH rfl rfl rfl rfl rfl op .base rfl (WQ.runS [] 1000 _ _ _ _ rfl (WQ.nilS ?_))
      refine WR.seq (WR.reg (WQ.runS [] 1000 _ _ _ _ rfl (WQ.nilS ?_)))
      refine WR.reg (WQ.runS [] 1000 _ _ _ _ rfl (WQ.nilS ?_))
      refine fin _ (nx1 + opQ C1 + 1) (nx1 + opQ C1) _ at3 ?_
      repeat (first | exact .nil | refine .cons rfl (.v (VLe.refl _)) ?_ | refine .cons rfl (.l _ _ rfl) ?_)
     ·rw [show decide (((i % (g + 1) : Nat) : Int) = 0) = false from decide_eq_false (by omega)]
      refine WQ.runS [] 1000 _ _ _ _ rfl (WQ.nilS (WR.condF rfl (WR.skip ?_)))
      refine fin _ c r1 nx1 v1.at_ ?_
      repeat (first | exact .nil | refine .cons rfl (.v (VLe.refl _)) ?_ | refine .cons rfl (.l _ _ rfl) ?_)
    ·rw [show decide (again > 0) = false from decide_eq_false hag]
     refine WQ.runS [] 1000 _ _ _ _ rfl (WQ.nilS (WR.condF rfl (WR.skip ?_)))
     refine fin _ c r1 nx1 v1.at_ ?_
     repeat (first | exact .nil | refine .cons rfl (.v (VLe.refl _)) ?_ | refine .cons rfl (.l _ _ rfl) ?_)
  ·rw [show decide ((i : Int) < ((l.map kst).length : Int)) = false from decide_eq_false (by omega)]
   refine WQ.runS [] 1000 _ _ _ _ rfl (WQ.nilS (WR.condF rfl (WR.exit ?_)))
   exact h0 _ _ _ _ (OO_low v.at_)
end Go.VM
end
section
/- CachefileLasts: the walk. -/
set_option maxRecDepth 100000
set_option linter.unusedVariables false
set_option linter.unusedSimpArgs false
namespace Go.VM
open Go.RowKit
def C0 (most bytes : Int) : CSt := ⟨most, bytes, 0, 0, [], 0⟩
theorem ordK_nil : ordK [] = [] := by
 unfold ordK
 have : orderF [] = [] := List.eq_nil_iff_forall_not_mem.2 (fun x h => by
  obtain ⟨e, q, _⟩ := mem_order.1 h
  simp at q)
 rw [this]; rfl
theorem rel0 (most bytes : Int) : Rel d0 (C0 most bytes) := ⟨⟨⟨sc0, .z, rfl, rfl⟩, rfl, fun x hx => nomatch hx⟩, rfl, .inl rfl⟩
theorem good0 (most bytes : Int) : GoodC (C0 most bytes) := ⟨fun e he => (by cases he), fun e he => (by cases he), fun e he => (by cases he)⟩
theorem lasts_core (l : List (List Nat)) (most bytes again : Int) (hb1 : -9223372036854775808 ≤ bytes) (hb2 : bytes < 9223372036854775808) (h8 : ∀ k ∈ l, ∀ c ∈ k, c < 256) (haw : ∀ h, SCall Go.Proofs.Try.prog [] 11 [] none h (.ret (.bool true)) none h) :
  SCall Go.Proofs.Try.prog [] 5 [.int .i64 most, .int .i64 bytes, .lst (l.map kst) .unk, .int .i64 again] none ⟨1000, og [], []⟩ (.ret (.bool true)) none ⟨1000, og [], []⟩ := by
 refine SCall.listed (fn := Go.Proofs.Try.f5) (by kernel_rfl) res5 (by kernel_rfl) (by kernel_rfl) (Nat.le_refl _) rfl trivial trivial ?_
 unfold rc5
 have new := new_call ⟨1000, og [], []⟩
 rw [nd_dol] at new
 refine WR.seq (WR.reg (WQ.runS [] 1000 _ _ _ _ rfl (WQ.nilS ?_)))
 refine WR.seq (WR.reg ?_)
 refine WQ.callH rfl rfl rfl rfl rfl (haw _) .base rfl (WQ.runS [] 1000 _ _ _ _ rfl (WQ.nilS ?_))
 refine WR.seq (WR.reg ?_)
 refine WQ.callH rfl rfl rfl rfl rfl new .base rfl (WQ.runS [] 1000 _ _ _ _ rfl (WQ.nilS ?_))
 have low : ∀ b, b < 1000 → og [] b = og (dol d0) b := fun b hb => by
  simp only [dol, og_cons]
  rw [if_neg (by omega), if_neg (by omega)]
 by_cases hbad : most < 0 ∨ bytes < 0
 ·have op := open_bad hbad 1000 1002 (dol d0) (by omega) rfl (dol_in d0)
  refine WR.seq (WR.reg (WQ.runS [] 3 _ _ _ _ rfl ?_))
  refine WQ.callH rfl rfl rfl rfl rfl op .base rfl (WQ.runS [] 1000 _ _ _ _ rfl (WQ.nilS ?_))
  refine WR.seq (WR.seq (WR.reg (WQ.runS [] 5 _ _ _ _ rfl ?_)))
  have hend : ∀ tm : TM, tg tm 9 = some (.v (.bool true)) → tg tm 11 = some (.v .nilp) → tg tm 12 = some (.v (.int .i64 1)) → ∀ QN QX, (∀ s, RetS Go.Proofs.Try.prog Go.Proofs.Try.f5 (.bool true) 1000 [] s → QX .ret s) →
    WR Go.Proofs.Try.prog [] ⟨Go.Proofs.Try.f5.ntmps, none, 5⟩ (.seq (.reg [.mv 9 38, .mv 38 39, ⟨0, 0, some (.mv (.t 11)), [], some 40, some (39, true)⟩, ⟨0, 0, some (.eq .ptr false (.t 40) (.c .nilp)), [], some 41, some (39, true)⟩, .op (.pick (.t 39) (.t 41) (.c (.bool false))) 42, .mv 42 43, ⟨0, 0, some (.mv (.t 12)), [], some 44, some (43, true)⟩, ⟨0, 0, some (.eq .int false (.t 44) (.c (.int .i64 1))), [], some 45, some (43, true)⟩, .op (.pick (.t 43) (.t 45) (.c (.bool false))) 46, .mv 46 8]) .ret) (SL.toS ⟨tm, [], none, 1002, dol d0, []⟩) QN QX := by
   intro tm g9 g11 g12 QN QX hq
   refine WR.weak (s := SL.toS ⟨[(9, .v (.bool true)), (11, .v .nilp), (12, .v (.int .i64 1))], [], none, 1002, dol d0, []⟩) (SW.tellR (.cons g9 (.v (VLe.refl _)) (.cons g11 (.v (VLe.refl _)) (.cons g12 (.v (VLe.refl _)) .nil))) .nil) ?_
   refine WR.seq (WR.reg (WQ.runS [] 1000 _ _ _ _ rfl (WQ.nilS ?_)))
   exact WR.ret (hq _ ⟨rfl, rfl, ⟨_, rfl, VLe.refl _⟩, fun b hb => low b hb⟩)
  by_cases hm : most < 0
  ·rw [show decide (most < 0) = true from decide_eq_true hm]
   refine WQ.runS [] 1000 _ _ _ _ rfl (WQ.nilS (WR.condT rfl ?_))
   exact hend _ rfl rfl rfl _ _ (fun s q => q)
  ·rw [show decide (most < 0) = false from decide_eq_false hm]
   refine WQ.runS [] 4 _ _ _ _ rfl ?_
   rw [show decide (bytes < 0) = true from decide_eq_true (by omega)]
   refine WQ.runS [] 1000 _ _ _ _ rfl (WQ.nilS (WR.condT rfl ?_))
   exact hend _ rfl rfl rfl _ _ (fun s q => q)
 ·have hm : 0 ≤ most := by omega
  have hb : 0 ≤ bytes := by omega
  have bud : Bud d0 (C0 most bytes) (3400000 * 60) 60 (7000 * 60) := ⟨by decide, by decide, by decide, by decide, by show 0 + _ ≤ _; omega, by show 0 + _ ≤ _; omega, Int.le_refl _, by show (0 : Int) + _ ≤ _; omega, fun e he => (by cases he), hb1, hb2, .inl rfl⟩
  obtain ⟨op, at0⟩ := open_at (nx := 1002) (lc := []) (Nat.le_refl _) (rel0 most bytes) rfl bud hm hb
  have op : SCall Go.Proofs.Try.prog [] 18 [.ptr 1000 0, .int .i64 most, .int .i64 bytes] none ⟨1002, og (dol d0), []⟩ (.ret (.tup [.ptr 1010 0, .int .i64 0])) none ⟨1011, og (OO d0 (C0 most bytes) 1010 1009), []⟩ := op
  have at0 : At 1011 1010 1009 := at0
  refine WR.seq (WR.reg (WQ.runS [] 3 _ _ _ _ rfl ?_))
  refine WQ.callH rfl rfl rfl rfl rfl op .base rfl (WQ.runS [] 1000 _ _ _ _ rfl (WQ.nilS ?_))
  refine WR.seq (WR.seq (WR.reg (WQ.runS [] 5 _ _ _ _ rfl ?_)))
  rw [show decide (most < 0) = false from decide_eq_false (by omega)]
  refine WQ.runS [] 4 _ _ _ _ rfl ?_
  rw [show decide (bytes < 0) = false from decide_eq_false (by omega)]
  refine WQ.runS [] 1000 _ _ _ _ rfl (WQ.nilS (WR.condF rfl (WR.skip ?_)))
  refine WR.seq (WR.reg (WQ.runS [] 1000 _ _ _ _ rfl (WQ.nilS ?_)))
  refine WR.seq (WR.seq (WR.reg (WQ.runS [] 1000 _ _ _ _ rfl (WQ.nilS ?_))))
  have hkeys : keysC (C0 most bytes) = [] := by
   show keepK most bytes (ordK []) = []
   rw [ordK_nil]; rfl
  refine WR.block (WR.loop ?_)
  refine WLr.weak (s := SL.toS ⟨laTm l most bytes again 1010 0, [], none, 1011, OO d0 (C0 most bytes) 1010 1009, laLc [] most bytes⟩) ?_ (lasts_loop l most bytes again hm hb hb2 h8 (fun tm nx ol lc hlow => ?_) (fun s q => q) 60 0 d0 (C0 most bytes) [] 1011 1010 1009 rfl ⟨rel0 most bytes, good0 most bytes, ⟨rfl, by decide⟩, rfl, rfl, hkeys, at0, bud⟩)
  ·refine SW.tellR ?_ (.cons rfl (.inr (.cons (VLe.unk _ _) rfl (.cons (VLe.refl _) rfl (.cons (VLe.refl _) rfl .nil)))) .nil)
   repeat (first | exact .nil | refine .cons rfl (.v (VLe.refl _)) ?_ | refine .cons rfl (.l _ _ rfl) ?_)
  ·show WR Go.Proofs.Try.prog [] _ rc5_J2 _ _ _
   unfold rc5_J2
   refine WR.seq (WR.reg (WQ.runS [] 1000 _ _ _ _ rfl (WQ.nilS ?_)))
   exact WR.ret ⟨rfl, rfl, ⟨_, rfl, VLe.refl _⟩, fun b hb => hlow b hb⟩
end Go.VM
end
section
/- awake: the walk. -/
set_option maxRecDepth 100000
set_option linter.unusedVariables false
set_option linter.unusedSimpArgs false
namespace Go.VM
open Go.RowKit
def keysF (L : List EZ) (out : List Nat) : List Nat := L.foldl (fun o e => o ++ e.k ++ [32]) out
theorem keys_loop {QN : S → Prop} {QX : X → S → Prop} (L : List EZ) (nx : Nat) (ol : OL) (hL : L.length ≤ 1000) (hk : ∀ e ∈ L, e.k.length ≤ 1000) : ∀ (m i : Nat) (out : List Nat), i + m = L.length → out.length ≤ 1001 * i →
  (∀ tm, tg tm 3 = some (.v (.str (keysF (L.drop i) out))) → QX (.exit 0) (SL.toS ⟨tm, [], none, nx, ol, []⟩)) →
  WLr Go.Proofs.Try.prog [] ⟨Go.Proofs.Try.f34.ntmps, none, 34⟩ rc34_L1 (SL.toS ⟨[(0, .v (.lst (L.map encZ) .unk)), (3, .v (.str out)), (4, .v (.int .i64 i))], [], none, nx, ol, []⟩) QN QX := by
 intro m
 have hl : (L.map encZ).length = L.length := List.length_map ..
 induction m with
 | zero =>
  intro i out hi ho hx
  unfold rc34_L1
  refine WLr.of ?_
  refine WR.seq (WR.seq (WR.reg (WQ.runS [] 1000 _ _ _ _ rfl (WQ.nilS ?_))))
  rw [show decide ((i : Int) < ((L.map encZ).length : Int)) = false from decide_eq_false (by omega)]
  refine WR.condF rfl (WR.exit ?_)
  rw [List.drop_eq_nil_iff.2 (by omega)] at hx
  exact hx _ rfl
 | succ m ih =>
  intro i out hi ho hx
  have hlt : i < L.length := by omega
  obtain ⟨e, he⟩ : ∃ e, L[i]? = some e := ⟨_, List.getElem?_eq_getElem hlt⟩
  have hd : L.drop i = e :: L.drop (i + 1) := by
   rw [List.drop_eq_getElem_cons hlt]
   congr 1
   rw [List.getElem?_eq_getElem hlt] at he; exact Option.some.inj he
  have g1 : (L.map encZ)[i]? = some (encZ e) := by rw [List.getElem?_map, he]; rfl
  have hek := hk e (List.mem_of_getElem? he)
  rw [hd] at hx
  unfold rc34_L1
  refine WLr.of ?_
  refine WR.seq (WR.seq (WR.reg (WQ.runS [] 1000 _ _ _ _ rfl (WQ.nilS ?_))))
  rw [show decide ((i : Int) < ((L.map encZ).length : Int)) = true from decide_eq_true (by omega)]
  refine WR.condT rfl (WR.skip ?_)
  refine WR.seq (WR.block (WR.reg (WQ.runS [] 3 _ _ _ _ rfl ?_)))
  refine WQ.lightS rfl rfl rfl (ia_at rfl rfl g1 rfl) rfl (WQ.runS [] 2 _ _ _ _ rfl ?_)
  refine WQ.lightS rfl rfl rfl (add_str rfl rfl (by unfold lim; omega) _) rfl ?_
  refine WQ.lightS rfl rfl rfl (add_str rfl rfl (by simp [lim]; omega) _) rfl (WQ.runS [] 1000 _ _ _ _ rfl (WQ.nilS ?_))
  unfold rc34_J1
  refine WR.reg (WQ.runS [] 1000 _ _ _ _ rfl (WQ.nilS ?_))
  rw [show IntKind.i64.wrap ((i : Int) + 1) = ((i + 1 : Nat) : Int) from by rw [wrap64 (by omega) (by omega)]; rfl]
  refine WIr.again (WLr.weak ?_ (ih (i + 1) (out ++ e.k ++ [32]) (by omega) (by simp; omega) hx))
  refine SW.tellR ?_ ?_
  ·repeat (first | exact .nil | refine .cons rfl (.v (VLe.refl _)) ?_ | refine .cons rfl (.l _ _ rfl) ?_ | refine .cons rfl (.v (VLe.unk _ _)) ?_)
  ·repeat (first | exact .nil | refine .cons rfl (.inl rfl) ?_)
theorem keysS_spec (L : List EZ) (hL : L.length ≤ 1000) (hk : ∀ e ∈ L, e.k.length ≤ 1000) (h : H) : SCall Go.Proofs.Try.prog [] 34 [.lst (L.map encZ) .unk] none h (.ret (.str (keysF L []))) none h := by
 refine SCall.pure0 rfl ?_ (by exact ⟨⟨encZs_in _, trivial⟩, trivial⟩) (by exact trivial) h
 refine SCall.listed (fn := Go.Proofs.Try.f34) (by kernel_rfl) res34 (by kernel_rfl) (by kernel_rfl) (Nat.le_refl _) rfl (trivial) trivial ?_
 unfold rc34
 refine WR.seq (WR.reg (WQ.runS [] 1000 _ _ _ _ rfl (WQ.nilS ?_)))
 refine WR.seq (WR.reg (WQ.runS [] 1000 _ _ _ _ rfl (WQ.nilS ?_)))
 refine WR.seq (WR.seq (WR.reg (WQ.runS [] 1000 _ _ _ _ rfl (WQ.nilS ?_))))
 refine WR.block (WR.loop ?_)
 refine WLr.weak ?_ (keys_loop L 1000 [] hL hk L.length 0 [] (by omega) (by simp) (fun tm t3 => ?_))
 ·refine SW.tellR ?_ ?_
  ·repeat (first | exact .nil | refine .cons rfl (.v (VLe.refl _)) ?_ | refine .cons rfl (.l _ _ rfl) ?_ | refine .cons rfl (.v (VLe.unk _ _)) ?_)
  ·repeat (first | exact .nil | refine .cons rfl (.inl rfl) ?_)
 ·rw [List.drop_zero] at t3
  show WR Go.Proofs.Try.prog [] _ rc34_J2 _ _ _
  refine WR.weak (s := SL.toS ⟨[(3, .v (.str (keysF L [])))], [], none, 1000, [], []⟩) (SW.tellR (.cons t3 (.v (VLe.refl _)) .nil) .nil) ?_
  unfold rc34_J2
  refine WR.seq (WR.reg (WQ.runS [] 1000 _ _ _ _ rfl (WQ.nilS ?_)))
  refine WR.ret ⟨rfl, rfl, ⟨_, rfl, VLe.refl _⟩, fun b _ => rfl⟩
def putRow (nx r : Nat) (d : Dk) (C : CSt) (k v : List Nat) : Nat := if putR d C k v = 1003 then r else nx + (putR d C k v - 1004)
theorem put_at {nx c r : Nat} {d : Dk} {C : CSt} {lc : LM} (a : At nx c r) (k v : List Nat) (hkv : k.length + v.length ≤ 1000) (bud : Bud d C 2000 1 20) :
  SCall Go.Proofs.Try.prog [] 23 [.ptr c 0, .str k, .str v] none ⟨nx, og (OO d C c r), lc⟩ (.ret (.int .i64 (putP d C k v).2.2)) none ⟨nx + putNn d C k v, og (OO (putP d C k v).1 (putP d C k v).2.1 c (putRow nx r d C k v)), lc⟩ ∧ At (nx + putNn d C k v) c (putRow nx r d C k v) := by
 have hR := putR_ok d C k v
 have := cache_liftR (put_core k v hkv bud) hR.1 hR.2 (by exact ⟨trivial, trivial, trivial⟩) trivial (a.hc (d := d) (C := C) (lc := lc)) (by show 1000 < nx; have := a.c0; have := a.cn; omega) (by show 1001 < nx; have := a.c0; have := a.cn; omega) a.cn a.rn
 have e : rowAtR ⟨nx, og (OO d C c r), lc⟩ r (putR d C k v) = putRow nx r d C k v := rfl
 have hq : putRow nx r d C k v = r ∨ (nx ≤ putRow nx r d C k v ∧ putRow nx r d C k v < nx + putNn d C k v) := by
  unfold putRow
  split
  ·exact .inl rfl
  ·right; omega
 rw [e, hcq_At a hq] at this
 obtain ⟨h1, h2, h3, h4, h5⟩ := a
 exact ⟨this, by omega, by omega, by omega, by omega, by omega⟩
def getRow (nx r : Nat) (d : Dk) (C : CSt) (k : List Nat) : Nat := if getR d C k = 1003 then r else nx + (getR d C k - 1004)
theorem getC_at {nx c r : Nat} {d : Dk} {C : CSt} {lc : LM} (a : At nx c r) (k : List Nat) (bud : Bud d C 100 0 10) :
  SCall Go.Proofs.Try.prog [] 22 [.ptr c 0, .str k] none ⟨nx, og (OO d C c r), lc⟩ (.ret (getW d C k)) none ⟨nx + getN d C k, og (OO (getP d C k).1 (getP d C k).2 c (getRow nx r d C k)), lc⟩ ∧ At (nx + getN d C k) c (getRow nx r d C k) := by
 have hR := getR_ok d C k
 have := cache_liftR (get_core k bud) hR.1 hR.2 (by exact ⟨trivial, trivial⟩) (getW_in d C k) (a.hc (d := d) (C := C) (lc := lc)) (by show 1000 < nx; have := a.c0; have := a.cn; omega) (by show 1001 < nx; have := a.c0; have := a.cn; omega) a.cn a.rn
 have e : rowAtR ⟨nx, og (OO d C c r), lc⟩ r (getR d C k) = getRow nx r d C k := rfl
 have hq : getRow nx r d C k = r ∨ (nx ≤ getRow nx r d C k ∧ getRow nx r d C k < nx + getN d C k) := by
  unfold getRow
  split
  ·exact .inl rfl
  ·right; omega
 rw [e, hcq_At a hq] at this
 obtain ⟨h1, h2, h3, h4, h5⟩ := a
 exact ⟨this, by omega, by omega, by omega, by omega, by omega⟩
theorem kept_at {nx c r : Nat} {d : Dk} {C : CSt} {lc : LM} (a : At nx c r) (cf : CFit C) :
  SCall Go.Proofs.Try.prog [] 25 [.ptr c 0] none ⟨nx, og (OO d C c r), lc⟩ (.ret (.lst ((runP C.L C.most C.bytes).map encZ) .unk)) none ⟨nx, og (OO d C c r), lc⟩ := by
 have := cache_liftR (d' := d) (C' := C) (r' := 1003) (n := 0) (keptCore d C 1003 1004 (Nat.le_refl _) (by omega) cf) (Nat.le_refl _) (by omega) trivial (by exact ⟨encZs_in _, trivial⟩) (a.hc (d := d) (C := C) (lc := lc)) (by show 1000 < nx; have := a.c0; have := a.cn; omega) (by show 1001 < nx; have := a.c0; have := a.cn; omega) a.cn a.rn
 have e : rowAtR ⟨nx, og (OO d C c r), lc⟩ r 1003 = r := rfl
 rw [e, hcq_At a (.inl rfl)] at this
 exact this
end Go.VM
end
section
/- awake: the walk, all of it. -/
set_option maxRecDepth 100000
set_option linter.unusedVariables false
set_option linter.unusedSimpArgs false
namespace Go.VM
open Go.RowKit
def aw1 : Dk × CSt × Int := putP d0 (C0 2 10) [97] [49]
def aw2 : Dk × CSt × Int := putP aw1.1 aw1.2.1 [98] [50]
def aw3 : Dk × CSt := getP aw2.1 aw2.2.1 [97]
def aw4 : Dk × CSt × Int := putP aw3.1 aw3.2 [99] [51]
def aw5 : Dk × CSt × Int := putP aw4.1 aw4.2.1 [100] [49, 50, 51, 52, 53, 54, 55, 56, 57, 48]
def budB (d : Dk) (C : CSt) : Bool := decide (d.a0.length + 2000 ≤ 690000000) && decide (d.a1.length + 2000 ≤ 690000000) && decide (d.ws.length + 20 ≤ 99000000) && decide (d.fuse < 9223372036854775808) && decide (C.len + 2000 ≤ 690000000) && decide (C.L.length + 1 ≤ 3310) && decide (0 ≤ C.last) && decide (C.last + 20 ≤ 690000000) && C.L.all (fun e => decide (sizeZ e ≤ 1000)) && decide (-9223372036854775808 ≤ C.bytes) && decide (C.bytes < 9223372036854775808) && decide (C.root = 0 ∨ C.root = 1)
theorem bud_of {d : Dk} {C : CSt} (h : budB d C = true) : Bud d C 2000 1 20 := by
 simp only [budB, Bool.and_eq_true, decide_eq_true_eq, List.all_eq_true] at h
 obtain ⟨⟨⟨⟨⟨⟨⟨⟨⟨⟨⟨h1, h2⟩, h3⟩, h4⟩, h5⟩, h6⟩, h7⟩, h8⟩, h9⟩, h10⟩, h11⟩, h12⟩ := h
 exact ⟨h1, h2, h3, h4, h5, h6, h7, h8, h9, h10, h11, h12⟩
theorem awake_core : SCall Go.Proofs.Try.prog [] 11 [] none ⟨1000, og [], []⟩ (.ret (.bool true)) none ⟨1000, og [], []⟩ := by
 have new := new_call ⟨1000, og [], []⟩
 rw [nd_dol] at new
 have b0 : Bud d0 (C0 2 10) 2000 1 20 := bud_of (by decide +kernel)
 have b1 : Bud aw1.1 aw1.2.1 2000 1 20 := bud_of (by decide +kernel)
 have b2 : Bud aw2.1 aw2.2.1 2000 1 20 := bud_of (by decide +kernel)
 have b3 : Bud aw3.1 aw3.2 2000 1 20 := bud_of (by decide +kernel)
 have b4 : Bud aw4.1 aw4.2.1 2000 1 20 := bud_of (by decide +kernel)
 have b5 : Bud aw5.1 aw5.2.1 2000 1 20 := bud_of (by decide +kernel)
 obtain ⟨op, at0⟩ := open_at (nx := 1002) (lc := []) (Nat.le_refl _) (rel0 2 10) rfl b0 (by decide) (by decide)
 have op : SCall Go.Proofs.Try.prog [] 18 [.ptr 1000 0, .int .i64 2, .int .i64 10] none ⟨1002, og (dol d0), []⟩ (.ret (.tup [.ptr 1010 0, .int .i64 0])) none ⟨1011, og (OO d0 (C0 2 10) 1010 1009), []⟩ := op
 have at0 : At 1011 1010 1009 := at0
 obtain ⟨p1, at1⟩ := put_at (lc := []) at0 [97] [49] (by decide) b0
 obtain ⟨p2, at2⟩ := put_at (lc := []) at1 [98] [50] (by decide) b1
 obtain ⟨p3, at3⟩ := getC_at (lc := []) at2 [97] (b2.mono : Bud aw2.1 aw2.2.1 100 0 10)
 obtain ⟨p4, at4⟩ := put_at (lc := []) at3 [99] [51] (by decide) b3
 have q4 := kept_at (d := aw4.1) (lc := []) at4 b4.comp.cf
 obtain ⟨p5, at5⟩ := put_at (lc := []) at4 [100] [49, 50, 51, 52, 53, 54, 55, 56, 57, 48] (by decide) b4
 have q5 := kept_at (d := aw5.1) (lc := []) at5 b5.comp.cf
 have r4 := keysS_spec (runP aw4.2.1.L aw4.2.1.most aw4.2.1.bytes) (by decide +kernel) (by decide +kernel)
 have r5 := keysS_spec (runP aw5.2.1.L aw5.2.1.most aw5.2.1.bytes) (by decide +kernel) (by decide +kernel)
 have sc := scan_spec [1] (by decide) (by decide)
 have w3 : getW aw2.1 aw2.2.1 [97] = .tup [.str [49], .bool true, .int .i64 0] := by kernel_rfl
 have w4 : (putP aw3.1 aw3.2 [99] [51]).2.2 = 0 := by decide +kernel
 have w5 : (putP aw4.1 aw4.2.1 [100] [49, 50, 51, 52, 53, 54, 55, 56, 57, 48]).2.2 = 0 := by decide +kernel
 have k4 : keysF (runP aw4.2.1.L aw4.2.1.most aw4.2.1.bytes) [] = [99, 32, 97, 32] := by decide +kernel
 have k5 : keysF (runP aw5.2.1.L aw5.2.1.most aw5.2.1.bytes) [] = [99, 32, 97, 32] := by decide +kernel
 have ws : scanV [1] = .tup [.lst [] .unk, .int .i64 0] := by kernel_rfl
 rw [ws] at sc
 rw [w3] at p3
 rw [w4] at p4
 rw [w5] at p5
 rw [k4] at r4
 rw [k5] at r5
 generalize runP aw4.2.1.L aw4.2.1.most aw4.2.1.bytes = R4 at q4 r4
 generalize runP aw5.2.1.L aw5.2.1.most aw5.2.1.bytes = R5 at q5 r5
 generalize putRow 1011 1009 d0 (C0 2 10) [97] [49] = x1 at *
 generalize 1011 + putNn d0 (C0 2 10) [97] [49] = n1 at *
 generalize putRow n1 x1 aw1.1 aw1.2.1 [98] [50] = x2 at *
 generalize n1 + putNn aw1.1 aw1.2.1 [98] [50] = n2 at *
 generalize getRow n2 x2 aw2.1 aw2.2.1 [97] = x3 at *
 generalize n2 + getN aw2.1 aw2.2.1 [97] = n3 at *
 generalize putRow n3 x3 aw3.1 aw3.2 [99] [51] = x4 at *
 generalize n3 + putNn aw3.1 aw3.2 [99] [51] = n4 at *
 generalize putRow n4 x4 aw4.1 aw4.2.1 [100] [49, 50, 51, 52, 53, 54, 55, 56, 57, 48] = x5 at *
 generalize n4 + putNn aw4.1 aw4.2.1 [100] [49, 50, 51, 52, 53, 54, 55, 56, 57, 48] = n5 at *
 refine SCall.listed (fn := Go.Proofs.Try.f11) (by kernel_rfl) res11 (by kernel_rfl) (by kernel_rfl) (Nat.le_refl _) rfl trivial trivial ?_
 unfold rc11
 refine WR.seq (WR.reg (WQ.runS [] 1000 _ _ _ _ rfl (WQ.nilS ?_)))
 refine WR.seq (WR.reg ?_)
 refine WQ.callH rfl rfl rfl rfl rfl new .base rfl (WQ.runS [] 1000 _ _ _ _ rfl (WQ.nilS ?_))
 refine WR.seq (WR.reg (WQ.runS [] 1 _ _ _ _ rfl ?_))
 refine WQ.callH rfl rfl rfl rfl rfl op .base rfl (WQ.runS [] 1000 _ _ _ _ rfl (WQ.nilS ?_))
 refine WR.seq (WR.seq (WR.reg (WQ.runS [] 1000 _ _ _ _ rfl (WQ.nilS (WR.condF rfl (WR.skip ?_))))))
 refine WR.seq (WR.reg (WQ.runS [] 1 _ _ _ _ rfl ?_))
 refine WQ.callH rfl rfl rfl rfl rfl p1 .base rfl (WQ.nilS ?_)
 refine WR.seq (WR.reg (WQ.runS [] 1 _ _ _ _ rfl ?_))
 refine WQ.callH rfl rfl rfl rfl rfl p2 .base rfl (WQ.nilS ?_)
 refine WR.seq (WR.reg (WQ.runS [] 1 _ _ _ _ rfl ?_))
 refine WQ.callH rfl rfl rfl rfl rfl p3 .base rfl (WQ.runS [] 1000 _ _ _ _ rfl (WQ.nilS ?_))
 refine WR.seq (WR.reg (WQ.runS [] 1 _ _ _ _ rfl ?_))
 refine WQ.callH rfl rfl rfl rfl rfl p4 .base rfl (WQ.runS [] 1000 _ _ _ _ rfl (WQ.nilS ?_))
 refine WR.seq (WR.reg (WQ.runS [] 1 _ _ _ _ rfl ?_))
 refine WQ.callH rfl rfl rfl rfl rfl q4 .base rfl ?_
 refine WQ.callH rfl rfl rfl rfl rfl (r4 _) .base rfl (WQ.runS [] 1000 _ _ _ _ rfl (WQ.nilS ?_))
 refine WR.seq (WR.reg (WQ.runS [] 1 _ _ _ _ rfl ?_))
 refine WQ.callH rfl rfl rfl rfl rfl p5 .base rfl (WQ.runS [] 1000 _ _ _ _ rfl (WQ.nilS ?_))
 refine WR.seq (WR.reg (WQ.runS [] 1 _ _ _ _ rfl ?_))
 refine WQ.callH rfl rfl rfl rfl rfl q5 .base rfl ?_
 refine WQ.callH rfl rfl rfl rfl rfl (r5 _) .base rfl (WQ.runS [] 1000 _ _ _ _ rfl (WQ.nilS ?_))
 refine WR.seq (WR.reg ?_)
 refine WQ.callH rfl rfl rfl rfl rfl (sc _) .base rfl (WQ.runS [] 1000 _ _ _ _ rfl (WQ.nilS ?_))
 refine WR.seq (WR.reg (WQ.runS [] 1000 _ _ _ _ rfl (WQ.nilS ?_)))
 exact WR.ret ⟨rfl, rfl, ⟨_, rfl, VLe.refl _⟩, fun b hb => OO_low at5 b hb⟩
theorem awake_spec (h : H) : SCall Go.Proofs.Try.prog [] 11 [] none h (.ret (.bool true)) none h := SCall.pure0 rfl awake_core trivial trivial h
end Go.VM
end
