/- laid for this seat: VcGet VcPut VtScan3 VtScan4 VcScan -/
import Derived.Test.YtonlemmcdecibaaVg11
import Derived.Test.YtonlemmcdecibaaVg10
section
/- The cache: a key is asked. -/
set_option maxRecDepth 100000
set_option linter.unusedVariables false
set_option linter.unusedSimpArgs false
namespace Go.VM
open Go.RowKit
def isK (L : List EZ) (k : List Nat) (i : Nat) : Bool := match L[i]? with | some e => decide (e.k = k) | none => false
def findK (L : List EZ) (k : List Nat) : List Nat → Option Nat
 | [] => none
 | i :: is => if isK L k i then some i else findK L k is
def valAt (L : List EZ) (i : Nat) : List Nat := match L[i]? with | some e => e.v | none => []
def touchP (d : Dk) (C : CSt) (kind i : Nat) : Dk × CSt × Int := if (marksP d C kind i).2.2 = 0 then tidyP (marksP d C kind i).1 (marksP d C kind i).2.1 else marksP d C kind i
def touchR (d : Dk) (C : CSt) (kind i : Nat) : Nat := if (marksP d C kind i).2.2 = 0 then tidyR (marksP d C kind i).1 (marksP d C kind i).2.1 else 1003
def touchN (d : Dk) (C : CSt) (kind i : Nat) : Nat := if (marksP d C kind i).2.2 = 0 then tidyN (marksP d C kind i).2.1 else 0
def getV (d : Dk) (C : CSt) (i : Nat) : V := if (touchP d C 3 i).2.2 = 0 then .tup [.str (valAt C.L i), .bool true, .int .i64 0] else .tup [.str [], .bool false, .int .i64 (touchP d C 3 i).2.2]
theorem get_end {QN : S → Prop} {QX : X → S → Prop} {tm : TM} {v : List Nat} {e : Int} {nx : Nat} {ol : OL} (t9 : tg tm 9 = some (.v (.str v))) (t10 : tg tm 10 = some (.v (.int .i64 e)))
  (hq : ∀ s, RetS Go.Proofs.Try.prog Go.Proofs.Try.f22 (if e = 0 then .tup [.str v, .bool true, .int .i64 0] else .tup [.str [], .bool false, .int .i64 e]) nx ol s → QX .ret s) :
  WR Go.Proofs.Try.prog [] ⟨Go.Proofs.Try.f22.ntmps, none, 22⟩ rc22_J1 (SL.toS ⟨tm, [], none, nx, ol, []⟩) QN QX := by
 refine WR.weak (s := SL.toS ⟨[(9, .v (.str v)), (10, .v (.int .i64 e))], [], none, nx, ol, []⟩) (SW.tellR (.cons t9 (.v (VLe.refl _)) (.cons t10 (.v (VLe.refl _)) .nil)) .nil) ?_
 unfold rc22_J1
 refine WR.seq (WR.seq (WR.reg (WQ.runS [] 1000 _ _ _ _ rfl (WQ.nilS ?_))))
 by_cases he : e = 0
 ·subst he
  rw [show (!decide ((0 : Int) = 0)) = false from rfl]
  refine WR.condF rfl (WR.skip ?_)
  refine WR.seq (WR.reg (WQ.runS [] 1000 _ _ _ _ rfl (WQ.nilS ?_)))
  exact WR.ret (hq _ ⟨rfl, rfl, ⟨_, rfl, VLe.refl _⟩, fun b _ => rfl⟩)
 ·rw [show (!decide (e = 0)) = true from by simp [he]]
  rw [if_neg he] at hq
  refine WR.condT rfl ?_
  refine WR.seq (WR.reg (WQ.runS [] 1000 _ _ _ _ rfl (WQ.nilS ?_)))
  exact WR.ret (hq _ ⟨rfl, rfl, ⟨_, rfl, VLe.refl _⟩, fun b _ => rfl⟩)
theorem get_loop {QN : S → Prop} {QX : X → S → Prop} (d : Dk) (C : CSt) (k : List Nat) (hne : C.L ≠ []) (bud : Bud d C 100 0 10) (is : List Nat) (hin : ∀ x ∈ is, x < C.L.length) (hil : is.length ≤ 100000) : ∀ (m j : Nat), j + m = is.length →
  (findK C.L k (is.drop j) = none → ∀ tm, QX (.exit 0) (SL.toS ⟨tm, [], none, 1004, CO d C 1003, []⟩)) →
  (∀ i, findK C.L k (is.drop j) = some i → ∀ s, RetS Go.Proofs.Try.prog Go.Proofs.Try.f22 (getV d C i) (1004 + touchN d C 3 i) (CO (touchP d C 3 i).1 (touchP d C 3 i).2.1 (touchR d C 3 i)) s → QX .ret s) →
  WLr Go.Proofs.Try.prog [] ⟨Go.Proofs.Try.f22.ntmps, none, 22⟩ rc22_L1 (SL.toS ⟨[(0, .v (.ptr 1002 0)), (1, .v (.str k)), (25, .v (.lst (is.map kcell) .unk)), (26, .v (.int .i64 is.length)), (27, .v (.int .i64 j))], [], none, 1004, CO d C 1003, []⟩) QN QX := by
 have e0 : CO d C 1003 = cpR d C.most C.bytes C.root C.len C.L.length C.last 1003 ++ [(1003, .cells true (flatZ C.L))] := by
  unfold CO CP cpR encC
  rw [clV_some hne, rowO_some hne]
 have hp := cpR_lt (d := d) (most := C.most) (bytes := C.bytes) (root := C.root) (len := C.len) (n := C.L.length) (last := C.last) (r := 1003) (Nat.le_refl _)
 have hrow : og (cpR d C.most C.bytes C.root C.len C.L.length C.last 1003 ++ [(1003, .cells true (flatZ C.L))]) 1003 = some (.cells true (flatZ C.L)) := rowAt _ hp
 intro m
 induction m with
 | zero =>
  intro j hj h0 h1
  unfold rc22_L1
  refine WLr.of ?_
  refine WR.seq (WR.reg (WQ.runS [] 1000 _ _ _ _ rfl (WQ.nilS ?_)))
  rw [show decide ((j : Int) < (is.length : Int)) = false from decide_eq_false (by omega)]
  refine WR.seq (WR.condF rfl (WR.exit ?_))
  rw [List.drop_eq_nil_iff.2 (by omega)] at h0
  exact h0 rfl _
 | succ m ih =>
  intro j hj h0 h1
  have hlt : j < is.length := by omega
  obtain ⟨i, hi⟩ : ∃ i, is[j]? = some i := ⟨_, List.getElem?_eq_getElem hlt⟩
  obtain ⟨e, he⟩ : ∃ e, C.L[i]? = some e := ⟨_, List.getElem?_eq_getElem (hin i (List.mem_of_getElem? hi))⟩
  have hiL := (List.getElem?_eq_some_iff.1 he).1
  have g0 : (is.map kcell)[j]? = some (kcell i) := by rw [List.getElem?_map, hi]; rfl
  have gk : (flatZ C.L)[0 + i * 4 + 0]? = some (.str e.k) := by rw [Nat.zero_add, flatZ_get C.L i e 0 (by omega) he]; rfl
  have gv : (flatZ C.L)[0 + i * 4 + 1]? = some (.str e.v) := by rw [Nat.zero_add, flatZ_get C.L i e 1 (by omega) he]; rfl
  have hd : is.drop j = i :: is.drop (j + 1) := by
   rw [List.drop_eq_getElem_cons hlt]
   congr 1
   rw [List.getElem?_eq_getElem hlt] at hi; exact Option.some.inj hi
  rw [hd] at h0 h1
  have hk : isK C.L k i = decide (e.k = k) := by unfold isK; rw [he]
  unfold rc22_L1
  refine WLr.of ?_
  refine WR.seq (WR.reg (WQ.runS [] 1000 _ _ _ _ rfl (WQ.nilS ?_)))
  rw [show decide ((j : Int) < (is.length : Int)) = true from decide_eq_true (by omega)]
  refine WR.seq (WR.condT rfl (WR.skip ?_))
  rw [e0]
  refine WR.seq (WR.block (WR.seq (WR.reg ?_)))
  refine WQ.lightS rfl rfl rfl (ia_at rfl rfl g0 rfl) rfl (WQ.runS [] 1000 _ _ _ _ rfl (WQ.nilS ?_))
  refine WR.seq (WR.seq (WR.reg (WQ.runS [] 5 _ _ _ _ rfl ?_)))
  refine WQ.lightS rfl rfl rfl (rowIa rfl rfl hiL) rfl (WQ.runS [] 1 _ _ _ _ rfl ?_)
  refine WQ.lightS rfl rfl rfl (atLd rfl hrow gk) rfl (WQ.runS [] 1000 _ _ _ _ rfl (WQ.nilS ?_))
  by_cases hek : e.k = k
  ·have h1 := h1 i (if_pos (by rw [hk]; exact decide_eq_true hek))
   have hm := marksP_core d C 3 i e 1003 1004 (Nat.le_refl _) (by omega) (by omega) (by have := bud.L; omega) he (bud.fit) (by have := bud.len; omega) ⟨bud.la0, by have := bud.la; omega⟩
   have hval : valAt C.L i = e.v := by unfold valAt; rw [he]
   rw [e0] at hm
   rw [show decide (e.k = k) = true from decide_eq_true hek]
   refine WR.condF rfl (WR.skip ?_)
   refine WR.seq (WR.reg (WQ.runS [] 5 _ _ _ _ rfl ?_))
   refine WQ.lightS rfl rfl rfl (rowIa rfl rfl hiL) rfl (WQ.runS [] 1 _ _ _ _ rfl ?_)
   refine WQ.lightS rfl rfl rfl (atLd rfl hrow gv) rfl (WQ.runS [] 1000 _ _ _ _ rfl (WQ.nilS ?_))
   refine WR.seq (WR.reg (WQ.runS [] 2 _ _ _ _ rfl ?_))
   refine WQ.callH rfl rfl rfl rfl rfl hm .base rfl (WQ.runS [] 1000 _ _ _ _ rfl (WQ.nilS ?_))
   have bud1 : Bud (marksP d C 3 i).1 (marksP d C 3 i).2.1 0 0 0 := (bud.stp (marksP_stp d C 3 i)).mono
   have ht := tidy_core bud1.comp (by have := bud1.len; omega)
   unfold getV touchP touchR touchN at h1
   rw [hval] at h1
   generalize marksP d C 3 i = M at h1 ht ⊢
   obtain ⟨d1, C1, e1⟩ := M
   refine WR.seq (WR.seq (WR.reg (WQ.runS [] 1000 _ _ _ _ rfl (WQ.nilS ?_))))
   dsimp only at h1 ht ⊢
   by_cases hz : e1 = 0
   ·subst hz
    simp only [if_true] at h1
    refine WR.condT rfl ?_
    generalize tidyP d1 C1 = T at h1 ht ⊢
    refine WR.reg (WQ.runS [] 1 _ _ _ _ rfl ?_)
    refine WQ.callH rfl rfl rfl rfl rfl ht .base rfl (WQ.runS [] 1000 _ _ _ _ rfl (WQ.nilS ?_))
    exact get_end rfl rfl h1
   ·rw [show decide (e1 = 0) = false from decide_eq_false hz]
    simp only [if_neg hz] at h1
    refine WR.condF rfl (WR.skip ?_)
    exact get_end rfl rfl (fun s q => h1 s (by rw [if_neg hz] at q; exact q))
  ·have hf : findK C.L k (i :: is.drop (j + 1)) = findK C.L k (is.drop (j + 1)) := if_neg (by rw [hk]; simpa using hek)
   rw [hf] at h0 h1
   rw [show decide (e.k = k) = false from decide_eq_false hek]
   refine WR.condT rfl (WR.exit ?_)
   unfold rc22_J2
   refine WR.reg (WQ.runS [] 1000 _ _ _ _ rfl (WQ.nilS ?_))
   rw [show IntKind.i64.wrap ((j : Int) + 1) = ((j + 1 : Nat) : Int) from by rw [wrap64 (by omega) (by omega)]; rfl]
   rw [← e0]
   refine WIr.again (WLr.weak ?_ (ih (j + 1) (by omega) h0 h1))
   refine SW.tellR ?_ ?_
   ·repeat (first | exact .nil | refine .cons rfl (.v (VLe.refl _)) ?_ | refine .cons rfl (.l _ _ rfl) ?_ | refine .cons rfl (.v (VLe.unk _ _)) ?_)
   ·repeat (first | exact .nil | refine .cons rfl (.inl rfl) ?_)
def getP (d : Dk) (C : CSt) (k : List Nat) : Dk × CSt := match findK C.L k (keptF C.L C.most C.bytes) with | some i => ((touchP d C 3 i).1, (touchP d C 3 i).2.1) | none => (d, C)
def getR (d : Dk) (C : CSt) (k : List Nat) : Nat := match findK C.L k (keptF C.L C.most C.bytes) with | some i => touchR d C 3 i | none => 1003
def getN (d : Dk) (C : CSt) (k : List Nat) : Nat := match findK C.L k (keptF C.L C.most C.bytes) with | some i => touchN d C 3 i | none => 0
def getW (d : Dk) (C : CSt) (k : List Nat) : V := match findK C.L k (keptF C.L C.most C.bytes) with | some i => getV d C i | none => .tup [.str [], .bool false, .int .i64 0]
theorem tidyR_ok (d : Dk) (C : CSt) : 1003 ≤ tidyR d C ∧ tidyR d C < 1004 + tidyN C := by
 unfold tidyR tidyN compR
 split
 ·split <;> omega
 ·omega
theorem touchR_ok (d : Dk) (C : CSt) (kind i : Nat) : 1003 ≤ touchR d C kind i ∧ touchR d C kind i < 1004 + touchN d C kind i := by
 unfold touchR touchN
 split
 ·exact tidyR_ok _ _
 ·omega
theorem getR_ok (d : Dk) (C : CSt) (k : List Nat) : 1003 ≤ getR d C k ∧ getR d C k < 1004 + getN d C k := by
 unfold getR getN
 split
 ·exact touchR_ok _ _ _ _
 ·omega
theorem getV_in (d : Dk) (C : CSt) (i : Nat) {D : Nat → Prop} : (getV d C i).In D := by
 unfold getV
 split <;> exact ⟨trivial, trivial, trivial, trivial⟩
theorem getW_in (d : Dk) (C : CSt) (k : List Nat) {D : Nat → Prop} : (getW d C k).In D := by
 unfold getW
 split
 ·exact getV_in _ _ _
 ·exact ⟨trivial, trivial, trivial, trivial⟩
theorem get_core {d : Dk} {C : CSt} (k : List Nat) (bud : Bud d C 100 0 10) :
  SCall Go.Proofs.Try.prog [] 22 [.ptr 1002 0, .str k] none ⟨1004, og (CO d C 1003), []⟩ (.ret (getW d C k)) none ⟨1004 + getN d C k, og (CO (getP d C k).1 (getP d C k).2 (getR d C k)), []⟩ := by
 have hR := getR_ok d C k
 refine cacheCall (fn := Go.Proofs.Try.f22) (by kernel_rfl) res22 (by kernel_rfl) (by kernel_rfl) (by omega) hR.1 hR.2 (getW_in d C k) ?_
 unfold rc22
 have cf := bud.comp
 refine WR.seq (WR.reg (WQ.runS [] 1000 _ _ _ _ rfl (WQ.nilS ?_)))
 refine WR.seq (WR.seq (WR.reg (WQ.runS [] 1000 _ _ _ _ rfl (WQ.nilS ?_))))
 refine WR.condF rfl (WR.skip ?_)
 refine WR.seq (WR.seq (WR.dreg hmix (DW.runS [] 1000 _ _ _ _ _ _ rfl ?_)))
 refine DW.callH (by repeat (first | exact .nil | refine PendR.passM rfl ?_ | refine PendR.sameM rfl ?_ | refine PendR.lightM rfl ?_)) rfl rfl rfl rfl rfl (keptC d C 1003 1004 [] (Nat.le_refl _) cf.cf) .base rfl (DW.runS [] 1000 _ _ _ _ _ _ rfl ?_)
 refine DW.finS (by repeat (first | exact .nil | refine PendR.passM rfl ?_ | refine PendR.sameM rfl ?_ | refine PendR.lightM rfl ?_)) ?_
 unfold getW getN getP getR
 generalize hidx : keptF C.L C.most C.bytes = idx at *
 have hin : ∀ i ∈ idx, i < C.L.length := fun i hi => keptF_mem (by rw [hidx]; exact hi)
 have hil : idx.length ≤ 100000 := by have h1 := keptF_len C.L C.most C.bytes; have h2 := cf.cf.n; rw [hidx] at h1; omega
 refine WR.block (WR.loop ?_)
 by_cases hne : C.L = []
 ·have hi0 : idx = [] := by rw [← hidx, hne]; exact keptF_nil _ _
  subst hi0
  unfold rc22_L1
  refine WLr.of ?_
  refine WR.seq (WR.reg (WQ.runS [] 1000 _ _ _ _ rfl (WQ.nilS ?_)))
  refine WR.seq (WR.condF rfl (WR.exit ?_))
  show WR Go.Proofs.Try.prog [] _ rc22_J3 _ _ _
  unfold rc22_J3
  refine WR.seq (WR.reg (WQ.runS [] 1000 _ _ _ _ rfl (WQ.nilS ?_)))
  refine WR.ret ⟨rfl, rfl, ⟨_, rfl, VLe.refl _⟩, fun b _ => rfl⟩
 ·have h26 : VLe (.int .i64 ((idx.map kcell).length : Int)) (.int .i64 (idx.length : Int)) := by rw [List.length_map]; exact VLe.refl _
  refine WLr.weak ?_ (get_loop d C k hne bud idx hin hil idx.length 0 (by omega) (fun h0 tm => ?_) (fun i h1 s q => ?_))
  ·exact SW.tellR (.cons rfl (.v (VLe.refl _)) (.cons rfl (.v (VLe.refl _)) (.cons rfl (.v (VLe.refl _)) (.cons rfl (.v h26) (.cons rfl (.v (VLe.refl _)) .nil))))) .nil
  ·rw [List.drop_zero] at h0
   rw [h0]
   show WR Go.Proofs.Try.prog [] _ rc22_J3 _ _ _
   unfold rc22_J3
   refine WR.seq (WR.reg (WQ.runS [] 1000 _ _ _ _ rfl (WQ.nilS ?_)))
   refine WR.ret ⟨rfl, rfl, ⟨_, rfl, VLe.refl _⟩, fun b _ => rfl⟩
  ·rw [List.drop_zero] at h1
   rw [h1]
   exact q
end Go.VM
end
section
/- The cache: a key is put. -/
set_option maxRecDepth 100000
set_option linter.unusedVariables false
set_option linter.unusedSimpArgs false
namespace Go.VM
open Go.RowKit
theorem tidy_at {d : Dk} {C : CSt} (cf : CompFit d C) (hl : C.len ≤ 4000000000) :
  SCall Go.Proofs.Try.prog [] 46 [.ptr 1002 0] none ⟨1005, og (CO d C 1004), []⟩ (.ret (.int .i64 (tidyP d C).2.2)) none ⟨1005 + tidyN C, og (CO (tidyP d C).1 (tidyP d C).2.1 (tidyR d C + 1)), []⟩ := by
 have hR := tidyR_ok d C
 have k : HC ⟨1005, og (CO d C 1004), []⟩ 1000 1001 1002 1004 d C := ⟨by decide, by decide, by decide, by decide, by decide, rfl, rfl, rfl, CO_row (d := d) (r := 1004) (by decide)⟩
 have := cache_liftR (tidy_core cf hl) hR.1 hR.2 trivial trivial k (by show 1000 < 1005; omega) (by show 1001 < 1005; omega) (by show 1002 < 1005; omega) (by show 1004 < 1005; omega)
 have e : rowAtR ⟨1005, og (CO d C 1004), []⟩ 1004 (tidyR d C) = tidyR d C + 1 := by
  unfold rowAtR
  split
  ·omega
  ·show 1005 + _ = _; omega
 rw [e, hcq_CO (r := 1004) (nx := 1005) (rr := tidyR d C + 1) (n := tidyN C) (by omega) (by omega) (by omega) (by omega)] at this
 exact this
def storeC (C : CSt) (k v : List Nat) : CSt := putN C ⟨k, v, false, 0⟩
def fitsC (C : CSt) (k v : List Nat) : Prop := ¬ C.most = 0 ∧ ((k.length + v.length : Nat) : Int) ≤ C.bytes
instance (C : CSt) (k v : List Nat) : Decidable (fitsC C k v) := inferInstanceAs (Decidable (_ ∧ _))
def putP (d : Dk) (C : CSt) (k v : List Nat) : Dk × CSt × Int :=
 if fitsC C k v then
  (if (addP d C (entryB k v)).2.2 = 0 then touchP (addP d C (entryB k v)).1 (storeC (addP d C (entryB k v)).2.1 k v) 2 (addP d C (entryB k v)).2.1.L.length else addP d C (entryB k v))
 else (d, C, 0)
def putR (d : Dk) (C : CSt) (k v : List Nat) : Nat :=
 if fitsC C k v then
  (if (addP d C (entryB k v)).2.2 = 0 then touchR (addP d C (entryB k v)).1 (storeC (addP d C (entryB k v)).2.1 k v) 2 (addP d C (entryB k v)).2.1.L.length + 1 else 1003)
 else 1003
def putNn (d : Dk) (C : CSt) (k v : List Nat) : Nat :=
 if fitsC C k v then
  (if (addP d C (entryB k v)).2.2 = 0 then touchN (addP d C (entryB k v)).1 (storeC (addP d C (entryB k v)).2.1 k v) 2 (addP d C (entryB k v)).2.1.L.length + 1 else 0)
 else 0
theorem putR_ok (d : Dk) (C : CSt) (k v : List Nat) : 1003 ≤ putR d C k v ∧ putR d C k v < 1004 + putNn d C k v := by
 unfold putR putNn
 split
 ·split
  ·have := touchR_ok (addP d C (entryB k v)).1 (storeC (addP d C (entryB k v)).2.1 k v) 2 (addP d C (entryB k v)).2.1.L.length
   omega
  ·omega
 ·omega
def rc23_a : RC := .seq (.reg [.mv 0 38, .mv 0 39, .op (.nc (.t 39)) 40, .op (.fa (.t 40) 5) 41, .op (.ld (.t 41) none) 42, .mv 1 43, .mv 2 44, .op (.bld [.str [], .str [], .bool false, .int .i64 0] [(0, 1), (1, 1), (2, 1), (3, 1)] [(0, .t 43), (1, .t 44)]) 45, .op (.bs 4 1 [.str [], .str [], .bool false, .int .i64 0] [(0, .t 45)]) 46, .op (.app (.t 42) (.t 46) 4 48 [.str [], .str [], .bool false, .int .i64 0]) 47, .op (.nc (.t 38)) 48, .op (.fa (.t 48) 5) 49, ⟨0, 0, some (.st (.t 49) (.t 47) 1), [], none, none⟩]) (.seq (.seq (.reg [.mv 0 50, .mv 0 51, .op (.nc (.t 51)) 52, .op (.fa (.t 52) 5) 53, .op (.ld (.t 53) none) 54, .op (.lenL (.t 54)) 55, .op (.bin .sub (.t 55) (.c (.int .i64 1))) 56, .op (.call (.c (.fn (.func 45) [] [])) [.t 50, .c (.int .i64 2), .t 56]) 57, .mv 57 8]) (.seq (.reg [.mv 8 58, .op (.eq .int true (.t 58) (.c (.int .i64 0))) 59]) (.cond (.t 59) (.seq (.reg [.mv 8 60, .mv 60 6]) .ret) .skip))) (.seq (.reg [.mv 0 61, .op (.call (.c (.fn (.func 46) [] [])) [.t 61]) 62, .mv 62 6]) .ret))
theorem put_tail {QN : S → Prop} {tm : TM} {d : Dk} {C : CSt} {k v : List Nat} (hkv : k.length + v.length ≤ 1000) (bud : Bud d C 100 1 10) (t0 : tg tm 0 = some (.v (.ptr 1002 0))) (t1 : tg tm 1 = some (.v (.str k))) (t2 : tg tm 2 = some (.v (.str v))) :
  WR Go.Proofs.Try.prog [] ⟨Go.Proofs.Try.f23.ntmps, none, 23⟩ rc23_a (SL.toS ⟨tm, [], none, 1004, CO d C 1003, []⟩) QN
   (retX (RetS Go.Proofs.Try.prog Go.Proofs.Try.f23 (.int .i64 (touchP d (storeC C k v) 2 C.L.length).2.2) (1004 + (touchN d (storeC C k v) 2 C.L.length + 1)) (CO (touchP d (storeC C k v) 2 C.L.length).1 (touchP d (storeC C k v) 2 C.L.length).2.1 (touchR d (storeC C k v) 2 C.L.length + 1)))) := by
 refine WR.weak (s := SL.toS ⟨[(0, .v (.ptr 1002 0)), (1, .v (.str k)), (2, .v (.str v))], [], none, 1004, CO d C 1003, []⟩) (SW.tellR (.cons t0 (.v (VLe.refl _)) (.cons t1 (.v (VLe.refl _)) (.cons t2 (.v (VLe.refl _)) .nil))) .nil) ?_
 unfold rc23_a
 have hn := bud.L
 refine WR.seq (WR.reg (WQ.runS [] 9 _ _ _ _ rfl ?_))
 refine WQ.doesS rfl (cacheApp (p := CP d C 1003) (CP_lt (Nat.le_refl _)) (by decide) (by omega) C.L ⟨k, v, false, 0⟩ (by omega) rfl rfl) rfl ?_
 refine WQ.runS [] 1000 _ _ _ _ rfl (WQ.nilS ?_)
 have hm : CO d (storeC C k v) 1004 = [(1000, .cells false (encD d 1001)), (1001, .tok d.ws.length), (1002, .cells false [.ptr 1000 0, .int .i64 C.most, .int .i64 C.bytes, .int .i64 C.root, .int .i64 (C.len : Int), .sl 1004 0 (C.L.length + 1) (.op 4), .int .i64 C.last])] ++ [(1004, .cells true (flatZ (C.L ++ [⟨k, v, false, 0⟩])))] := by
  have hne : C.L ++ [(⟨k, v, false, 0⟩ : EZ)] ≠ [] := by simp
  simp only [CO, CP, encC, storeC, putN, clV_some hne, rowO_some hne, List.length_append, List.length_cons, List.length_nil]
 have hget : (storeC C k v).L[C.L.length]? = some ⟨k, v, false, 0⟩ := by simp [storeC, putN]
 have bud1 : Bud d (storeC C k v) 100 0 10 := (bud.stp (putN_stp d C ⟨k, v, false, 0⟩ hkv)).mono
 have hmk := marksP_core d (storeC C k v) 2 C.L.length ⟨k, v, false, 0⟩ 1004 1005 (by omega) (by omega) (by omega) (by omega) hget bud1.fit (by have := bud1.len; omega) ⟨bud1.la0, by have := bud1.la; omega⟩
 rw [hm] at hmk
 refine WR.seq (WR.seq (WR.reg (WQ.runS [] 6 _ _ _ _ rfl ?_)))
 refine WQ.runS [] 1 _ _ _ _ rfl ?_
 rw [show IntKind.i64.wrap (((C.L.length + 1 : Nat) : Int) - 1) = (C.L.length : Int) from by rw [wrap64 (by omega) (by omega)]; omega]
 refine WQ.callH rfl rfl rfl rfl rfl hmk .base rfl (WQ.runS [] 1000 _ _ _ _ rfl (WQ.nilS ?_))
 have bud2 : Bud (marksP d (storeC C k v) 2 C.L.length).1 (marksP d (storeC C k v) 2 C.L.length).2.1 0 0 0 := (bud1.stp (marksP_stp d (storeC C k v) 2 C.L.length)).mono
 have ht := tidy_at bud2.comp (by have := bud2.len; omega)
 unfold touchP touchR touchN
 generalize marksP d (storeC C k v) 2 C.L.length = M at ht ⊢
 obtain ⟨d1, C1, e1⟩ := M
 dsimp only at ht ⊢
 refine WR.seq (WR.reg (WQ.runS [] 1000 _ _ _ _ rfl (WQ.nilS ?_)))
 by_cases hz : e1 = 0
 ·subst hz
  simp only [if_true]
  refine WR.condF rfl (WR.skip ?_)
  rw [show 1004 + (tidyN C1 + 1) = 1005 + tidyN C1 by omega]
  generalize tidyP d1 C1 = T at ht ⊢
  refine WR.seq (WR.reg (WQ.runS [] 1 _ _ _ _ rfl ?_))
  refine WQ.callH rfl rfl rfl rfl rfl ht .base rfl (WQ.runS [] 1000 _ _ _ _ rfl (WQ.nilS ?_))
  refine WR.ret ⟨rfl, rfl, ⟨_, rfl, VLe.refl _⟩, fun b _ => rfl⟩
 ·rw [show (!decide (e1 = 0)) = true from by simp [hz]]
  simp only [if_neg hz]
  refine WR.condT rfl ?_
  refine WR.seq (WR.reg (WQ.runS [] 1000 _ _ _ _ rfl (WQ.nilS ?_)))
  refine WR.ret ⟨rfl, rfl, ⟨_, rfl, VLe.refl _⟩, fun b _ => rfl⟩
theorem put_mid {QN : S → Prop} {tm : TM} {d : Dk} {C : CSt} {k v : List Nat} (hkv : k.length + v.length ≤ 1000) (bud : Bud d C 2000 1 20) (hf : fitsC C k v) (t0 : tg tm 0 = some (.v (.ptr 1002 0))) (t1 : tg tm 1 = some (.v (.str k))) (t2 : tg tm 2 = some (.v (.str v))) :
  WR Go.Proofs.Try.prog [] ⟨Go.Proofs.Try.f23.ntmps, none, 23⟩ rc23_J1 (SL.toS ⟨tm, [], none, 1004, CO d C 1003, []⟩) QN
   (retX (RetS Go.Proofs.Try.prog Go.Proofs.Try.f23 (.int .i64 (putP d C k v).2.2) (1004 + putNn d C k v) (CO (putP d C k v).1 (putP d C k v).2.1 (putR d C k v)))) := by
 refine WR.weak (s := SL.toS ⟨[(0, .v (.ptr 1002 0)), (1, .v (.str k)), (2, .v (.str v))], [], none, 1004, CO d C 1003, []⟩) (SW.tellR (.cons t0 (.v (VLe.refl _)) (.cons t1 (.v (VLe.refl _)) (.cons t2 (.v (VLe.refl _)) .nil))) .nil) ?_
 have hel := entryB_len k v
 have hadd := addP_core d C (entryB k v) 1003 1004 (Nat.le_refl _) (by omega) (bud.fit (by omega)) (by have := bud.len; omega)
 have bud1 : Bud (addP d C (entryB k v)).1 (addP d C (entryB k v)).2.1 100 1 10 := (bud.stp (addP_stp d C (entryB k v)) (by omega)).mono (by omega)
 unfold putP putNn putR
 simp only [if_pos hf]
 generalize addP d C (entryB k v) = M at hadd bud1 ⊢
 obtain ⟨d1, C1, e1⟩ := M
 dsimp only at hadd bud1 ⊢
 unfold rc23_J1
 refine WR.seq (WR.seq (WR.reg (WQ.runS [] 3 _ _ _ _ rfl ?_)))
 refine WQ.callH rfl rfl rfl rfl rfl (entry_spec k v (by omega) (by omega) _) .base rfl ?_
 refine WQ.callH rfl rfl rfl rfl rfl hadd .base rfl (WQ.runS [] 1000 _ _ _ _ rfl (WQ.nilS ?_))
 refine WR.seq (WR.reg (WQ.runS [] 1000 _ _ _ _ rfl (WQ.nilS ?_)))
 by_cases hz : e1 = 0
 ·subst hz
  simp only [if_true]
  refine WR.condF rfl (WR.skip ?_)
  exact put_tail hkv bud1 rfl rfl rfl
 ·rw [show (!decide (e1 = 0)) = true from by simp [hz]]
  simp only [if_neg hz]
  refine WR.condT rfl ?_
  refine WR.seq (WR.reg (WQ.runS [] 1000 _ _ _ _ rfl (WQ.nilS ?_)))
  refine WR.ret ⟨rfl, rfl, ⟨_, rfl, VLe.refl _⟩, fun b _ => rfl⟩
theorem put_core {d : Dk} {C : CSt} (k v : List Nat) (hkv : k.length + v.length ≤ 1000) (bud : Bud d C 2000 1 20) :
  SCall Go.Proofs.Try.prog [] 23 [.ptr 1002 0, .str k, .str v] none ⟨1004, og (CO d C 1003), []⟩ (.ret (.int .i64 (putP d C k v).2.2)) none ⟨1004 + putNn d C k v, og (CO (putP d C k v).1 (putP d C k v).2.1 (putR d C k v)), []⟩ := by
 have hR := putR_ok d C k v
 refine cacheCall (fn := Go.Proofs.Try.f23) (by kernel_rfl) res23 (by kernel_rfl) (by kernel_rfl) (by omega) hR.1 hR.2 trivial ?_
 unfold rc23
 have hnot : ¬ fitsC C k v → (putP d C k v = (d, C, 0) ∧ putNn d C k v = 0 ∧ putR d C k v = 1003) := fun h => ⟨if_neg h, if_neg h, if_neg h⟩
 refine WR.seq (WR.reg (WQ.runS [] 1000 _ _ _ _ rfl (WQ.nilS ?_)))
 refine WR.seq (WR.block (WR.seq (WR.reg (WQ.runS [] 1000 _ _ _ _ rfl (WQ.nilS ?_)))))
 refine WR.condF rfl ?_
 refine WR.seq (WR.reg (WQ.runS [] 5 _ _ _ _ rfl ?_))
 by_cases hm : C.most = 0
 ·rw [show decide (C.most = 0) = true from decide_eq_true hm]
  obtain ⟨e1, e2, e3⟩ := hnot (fun h => h.1 hm)
  rw [e1, e2, e3]
  refine WQ.runS [] 1000 _ _ _ _ rfl (WQ.nilS ?_)
  refine WR.condT rfl ?_
  refine WR.seq (WR.reg (WQ.runS [] 1000 _ _ _ _ rfl (WQ.nilS ?_)))
  refine WR.ret ⟨rfl, rfl, ⟨_, rfl, VLe.refl _⟩, fun b _ => rfl⟩
 ·rw [show decide (C.most = 0) = false from decide_eq_false hm]
  refine WQ.runS [] 6 _ _ _ _ rfl ?_
  rw [show IntKind.i64.wrap ((k.length : Int) + (v.length : Int)) = ((k.length + v.length : Nat) : Int) from by rw [wrap64 (by omega) (by omega)]; omega]
  refine WQ.runS [] 1000 _ _ _ _ rfl (WQ.nilS ?_)
  by_cases hf : fitsC C k v
  ·have h2 := hf.2
   rw [show decide (((k.length + v.length : Nat) : Int) > C.bytes) = false from decide_eq_false (by omega)]
   refine WR.condF rfl (WR.skip ?_)
   exact put_mid hkv bud hf rfl rfl rfl
  ·have h2 : ((k.length + v.length : Nat) : Int) > C.bytes := by
    have : ¬ ((k.length + v.length : Nat) : Int) ≤ C.bytes := fun h => hf ⟨hm, h⟩
    omega
   rw [show decide (((k.length + v.length : Nat) : Int) > C.bytes) = true from decide_eq_true h2]
   obtain ⟨e1, e2, e3⟩ := hnot hf
   rw [e1, e2, e3]
   refine WR.condT rfl ?_
   refine WR.seq (WR.reg (WQ.runS [] 1000 _ _ _ _ rfl (WQ.nilS ?_)))
   refine WR.ret ⟨rfl, rfl, ⟨_, rfl, VLe.refl _⟩, fun b _ => rfl⟩
end Go.VM
end
section
/- The cache's file: the loop over records. -/
set_option maxRecDepth 100000
set_option linter.unusedVariables false
set_option linter.unusedSimpArgs false
namespace Go.VM
open Go.RowKit
def recF (b : List Nat) (a : Nat) (kind : Nat) : Option (Rec × Bool) :=
 if kind = 1 then
  let k := textF b (a + 1) true
  let v := textF b k.2.1 k.2.2
  some (⟨kind, k.1, v.1, 0, v.2.1⟩, v.2.2)
 else if kind = 2 ∨ kind = 3 then
  let n := numF b (a + 1) true
  some (⟨kind, [], [], n.1, n.2.1⟩, n.2.2)
 else none
def scanL (b : List Nat) : Nat → Nat → Sc → Sc × Nat × Bool × Bool
 | 0, a, s => (s, a, true, false)
 | m + 1, a, s => match b[a]? with
  | none => (s, a, true, false)
  | some kind => match recF b a kind with
   | none => (s, a + 1, true, false)
   | some (x, false) => (s, x.e, false, false)
   | some (x, true) => match addF s x with
    | none => (s, x.e, true, true)
    | some s' => scanL b m x.e s'
theorem recF_ok {b : List Nat} {a kind : Nat} {x : Rec} {w : Bool} (hk : b[a]? = some kind) (h8 : ∀ x ∈ b, x < 256) (h : recF b a kind = some (x, w)) : a < x.e ∧ x.e ≤ b.length ∧ x.n ≤ 4294967295 ∧ x.kind = kind := by
 have hlt := (List.getElem?_eq_some_iff.1 hk).1
 unfold recF at h
 split at h
 ·rename_i h1
  cases h
  have t1 := textF_ok b (a + 1) true (by omega) h8
  have t2 := textF_ok b _ (textF b (a + 1) true).2.2 t1.1 h8
  exact ⟨by have := t1.2.1; have := t2.2.1; simp only; omega, t2.1, Nat.zero_le _, rfl⟩
 ·split at h
  ·cases h
   have t1 := numF_ok b (a + 1) true (by omega) h8
   exact ⟨by have := t1.2.1; simp only; omega, t1.1, t1.2.2, rfl⟩
  ·cases h
def tmL : TM := [(0, .v (.fn (.yield 1005) [] [])), (1, .v (.ptr 1003 0)), (3, .v (.ptr 1006 0))]
noncomputable def lpE (j : Bool) (asC bdC : Code) : ALoop := if j then lpS .done (some (.exit 0)) asC bdC else lpS .ready none asC bdC
def tmT : TM := [(0, .v (.fn (.yield 1005) [] [])), (1, .v (.ptr 1003 0)), (3, .v (.ptr 1006 0)), (4, .l 4 0)]
theorem scan_tail {asC bdC : Code} (ha : resC Go.Proofs.Try.prog asC = some scA) (hb : resC Go.Proofs.Try.prog bdC = some scB) (b : List Nat) (s : Sc) (x : Rec) (w3 : Bool) (hn : x.n ≤ 4294967295) (hl : s.l.length ≤ 80000000) (hlast : s.last ≤ 700000000) {QN : S → Prop} {QX QX2 : X → S → Prop}
  (hagain : ∀ s', w3 = true → addF s x = some s' → WLr Go.Proofs.Try.prog [] ⟨Go.Proofs.Try.f61.ntmps, none, 61⟩ rc61_L1 (SL.toS ⟨tmL, [], none, nxF s'.l, memF s' b (lpS .ready none asC bdC) x.e true, []⟩) QN QX)
  (h1 : ∀ tm lc, w3 = false → QX2 .ret (SL.toS ⟨tm, [], none, nxF s.l, memF s b (lpS .ready none asC bdC) x.e false, lc⟩))
  (h2 : ∀ tm lc, w3 = true → addF s x = none → QX2 .ret (SL.toS ⟨tm, [], none, nxF s.l, memF s b (lpS .done (some (.exit 0)) asC bdC) x.e true, lc⟩)) :
  WR Go.Proofs.Try.prog [] ⟨Go.Proofs.Try.f61.ntmps, none, 61⟩ rc61_J2 (SL.toS ⟨tmT, [], none, nxF s.l, mem (lvF s.l) s.good s.last b (lpS .ready none asC bdC) x.e w3 (rowF s.l), [(4, encR { x with e := 0 })]⟩) (fun s1 => WIr Go.Proofs.Try.prog [] ⟨Go.Proofs.Try.f61.ntmps, none, 61⟩ rc61_L1 s1 QN QX) QX2 := by
 unfold rc61_J2
 cases w3 with
 | false =>
  repeat (first | refine WR.seq ?_ | refine WR.block ?_ | refine WR.scope ?_ | refine WR.skip ?_ | refine WR.exit ?_ | refine WR.condT rfl ?_ | refine WR.condF rfl ?_ | refine WR.reg (WQ.runS [] 1000 _ _ _ _ rfl ?_) | refine WQ.nilS ?_ | refine WR.dreg hmix (DW.runS [] 1000 _ _ _ _ _ _ rfl ?_))
  exact WR.ret (h1 _ _ rfl)
 | true =>
  refine WR.seq (WR.reg (WQ.runS [] 1000 _ _ _ _ rfl (WQ.nilS ?_)))
  refine WR.seq (WR.reg (WQ.runS [] 1000 _ _ _ _ rfl ?_))
  cases hadd : addF s x with
  | none =>
   refine WQ.yieldS rfl rfl rfl rfl ((round_none ha hb s x hadd hn b x.e true).relc _) rfl ?_
   refine WQ.runS [] 1000 _ _ _ _ rfl (WQ.nilS ?_)
   repeat (first | refine WR.seq ?_ | refine WR.block ?_ | refine WR.scope ?_ | refine WR.skip ?_ | refine WR.exit ?_ | refine WR.condT rfl ?_ | refine WR.condF rfl ?_ | refine WR.reg (WQ.runS [] 1000 _ _ _ _ rfl ?_) | refine WQ.nilS ?_ | refine WR.dreg hmix (DW.runS [] 1000 _ _ _ _ _ _ rfl ?_))
   exact WR.ret (h2 _ _ rfl hadd)
  | some s' =>
   refine WQ.yieldS rfl rfl rfl rfl ((round_some ha hb s s' x hadd hl hlast b x.e true).relc _) rfl ?_
   refine WQ.runS [] 1000 _ _ _ _ rfl (WQ.nilS ?_)
   repeat (first | refine WR.seq ?_ | refine WR.block ?_ | refine WR.scope ?_ | refine WR.skip ?_ | refine WR.exit ?_ | refine WR.condT rfl ?_ | refine WR.condF rfl ?_ | refine WR.reg (WQ.runS [] 1000 _ _ _ _ rfl ?_) | refine WQ.nilS ?_ | refine WR.dreg hmix (DW.runS [] 1000 _ _ _ _ _ _ rfl ?_))
   refine WIr.again (WLr.weak (s := SL.toS ⟨tmL, [], none, nxF s'.l, memF s' b (lpS .ready none asC bdC) x.e true, []⟩) ?_ (hagain s' rfl hadd))
   refine SW.tellR ?_ ?_
   ·repeat (first | exact .nil | refine .cons rfl (.v (VLe.refl _)) ?_ | refine .cons rfl (.l _ _ rfl) ?_ | refine .cons rfl (.v (VLe.unk _ _)) ?_)
   ·repeat (first | exact .nil | refine .cons rfl (.inl rfl) ?_)
theorem addF_le {s s' : Sc} {x : Rec} (h : addF s x = some s') : s'.l.length ≤ s.l.length + 1 ∧ s'.last ≤ s.last + 1 ∧ s'.good = x.e := by
 unfold addF at h
 split at h
 ·cases h; simp
 ·split at h
  ·cases h
  ·split at h
   ·cases h; simp
   ·cases h
theorem takeF_true {b : List Nat} {a n : Nat} {w : Bool} (h : (takeF b a w n).2.2 = true) : w = true ∧ (takeF b a w n).2.1 = a + n := by
 unfold takeF at h ⊢
 split
 ·rename_i q; exact ⟨q.1, rfl⟩
 ·rename_i q; rw [if_neg q] at h; cases h
theorem numF_true {b : List Nat} {a : Nat} {w : Bool} (h : (numF b a w).2.2 = true) : w = true ∧ (numF b a w).2.1 = a + 4 := by
 have h1 : ((takeF b a w 4).2.2 && decide (be (takeF b a w 4).1 ≤ 2147483647)) = true := h
 have h2 : (takeF b a w 4).2.2 = true := by
  cases hq : (takeF b a w 4).2.2 with
  | true => rfl
  | false => rw [hq] at h1; cases h1
 exact takeF_true h2
theorem textF_true {b : List Nat} {a : Nat} {w : Bool} (h : (textF b a w).2.2 = true) : w = true ∧ a + 4 ≤ (textF b a w).2.1 := by
 have h1 := takeF_true (b := b) (a := (numF b a w).2.1) (n := (numF b a w).1) (w := (numF b a w).2.2) h
 have h2 := numF_true h1.1
 have h3 : (textF b a w).2.1 = (numF b a w).2.1 + (numF b a w).1 := h1.2
 exact ⟨h2.1, by omega⟩
theorem grow9 {b : List Nat} {a kind : Nat} {x : Rec} {s s' : Sc} (hk : b[a]? = some kind) (h8 : ∀ x ∈ b, x < 256) (hrec : recF b a kind = some (x, true)) (hadd : addF s x = some s') (h : 9 * s.l.length ≤ a) : 9 * s'.l.length ≤ x.e := by
 obtain ⟨r1, r2, r3, r4⟩ := recF_ok hk h8 hrec
 by_cases h1 : x.kind = 1
 ·have hk1 : kind = 1 := by omega
  have he : a + 9 ≤ x.e := by
   unfold recF at hrec
   rw [if_pos hk1] at hrec
   have h2 := Option.some.inj hrec
   have e1 := congrArg Prod.fst h2
   have e2 := congrArg Prod.snd h2
   have q1 := textF_true (b := b) e2
   have q2 := textF_true (b := b) q1.1
   have e3 := congrArg Rec.e e1
   simp only at e3
   omega
  unfold addF at hadd
  rw [if_pos h1] at hadd
  cases hadd
  simp only [List.length_append, List.length_cons, List.length_nil]
  omega
 ·unfold addF at hadd
  rw [if_neg h1] at hadd
  split at hadd
  ·cases hadd
  ·split at hadd
   ·cases hadd
    simp only [List.length_set]
    omega
   ·cases hadd
theorem scan_loop {asC bdC : Code} (ha : resC Go.Proofs.Try.prog asC = some scA) (hb : resC Go.Proofs.Try.prog bdC = some scB) (b : List Nat) (hlen : b.length ≤ 700000000) (h8 : ∀ x ∈ b, x < 256) {QN : S → Prop} {QX : X → S → Prop} : ∀ (m a : Nat) (s : Sc), b.length - a < m → a ≤ b.length → 9 * s.l.length ≤ a → s.last ≤ a →
  (∀ tm lc x, (x = .ret ∨ x = .exit 0) → QX x (SL.toS ⟨tm, [], none, nxF (scanL b m a s).1.l, memF (scanL b m a s).1 b (lpE (scanL b m a s).2.2.2 asC bdC) (scanL b m a s).2.1 (scanL b m a s).2.2.1, lc⟩)) →
  WLr Go.Proofs.Try.prog [] ⟨Go.Proofs.Try.f61.ntmps, none, 61⟩ rc61_L1 (SL.toS ⟨tmL, [], none, nxF s.l, memF s b (lpS .ready none asC bdC) a true, []⟩) QN QX := by
 intro m
 induction m with
 | zero => intro a s h; omega
 | succ m ih =>
  intro a s hm hal hl hlast hx
  unfold rc61_L1
  refine WLr.of ?_
  unfold memF
  refine WR.seq (WR.seq (WR.dreg hmix (DW.runS [] 1000 _ _ _ _ _ _ rfl ?_)))
  refine DW.finS (by repeat (first | exact .nil | refine PendR.passM rfl ?_ | refine PendR.sameM rfl ?_ | refine PendR.lightM rfl ?_)) ?_
  cases hk : b[a]? with
  | none =>
   have hge : b.length ≤ a := List.getElem?_eq_none_iff.1 hk
   rw [show decide ((a : Int) < (b.length : Int)) = false from decide_eq_false (by omega)]
   repeat (first | refine WR.seq ?_ | refine WR.block ?_ | refine WR.scope ?_ | refine WR.skip ?_ | refine WR.exit ?_ | refine WR.condT rfl ?_ | refine WR.condF rfl ?_ | refine WR.reg (WQ.runS [] 1000 _ _ _ _ rfl ?_) | refine WQ.nilS ?_ | refine WR.dreg hmix (DW.runS [] 1000 _ _ _ _ _ _ rfl ?_))
   have := hx
   simp only [scanL, hk] at hx
   exact hx _ _ _ (.inr rfl)
  | some kind =>
   have hlt := (List.getElem?_eq_some_iff.1 hk).1
   have hk8 : kind < 256 := h8 _ (List.mem_of_getElem? hk)
   have htake : takeF b a true 1 = ([kind], a + 1, true) := by
    have e : (b.drop a).take 1 = [kind] := by
     rw [List.getElem?_eq_getElem hlt] at hk
     cases hk
     rw [List.drop_eq_getElem_cons hlt]; rfl
    simp [takeF, e]; omega
   rw [show decide ((a : Int) < (b.length : Int)) = true from decide_eq_true (by omega)]
   refine WR.condT rfl (WR.skip ?_)
   refine WR.block (WR.seq (WR.reg (WQ.runS [] 1 _ _ _ _ rfl ?_)))
   refine WQ.callH rfl rfl rfl rfl rfl (take_spec b a 1 true hlen hal (by omega) (by decide) rfl) (.put .base rfl) rfl ?_
   rw [htake]
   refine WQ.runS [] 1000 _ _ _ _ rfl (WQ.nilS ?_)
   rw [show IntKind.i64.wrap (kind : Int) = (kind : Int) from wrap64 (by omega) (by omega)]
   have close : ∀ (QX2 : X → S → Prop) x w3, (∀ q, QX .ret q → QX2 .ret q) → recF b a kind = some (x, w3) → WR Go.Proofs.Try.prog [] ⟨Go.Proofs.Try.f61.ntmps, none, 61⟩ rc61_J2 (SL.toS ⟨tmT, [], none, nxF s.l, mem (lvF s.l) s.good s.last b (lpS .ready none asC bdC) x.e w3 (rowF s.l), [(4, encR { x with e := 0 })]⟩) (fun s1 => WIr Go.Proofs.Try.prog [] ⟨Go.Proofs.Try.f61.ntmps, none, 61⟩ rc61_L1 s1 QN QX) QX2 := by
    intro QX2 x w3 hq hrec
    obtain ⟨r1, r2, r3, r4⟩ := recF_ok hk h8 hrec
    refine scan_tail ha hb b s x w3 r3 (by omega) (by omega) (fun s' hw hadd => ?_) (fun tm lc hw => ?_) (fun tm lc hw hadd => ?_)
    ·subst hw
     obtain ⟨q1, q2, q3⟩ := addF_le hadd
     refine ih x.e s' (by omega) r2 (grow9 hk h8 hrec hadd hl) (by omega) ?_
     simp only [scanL, hk, hrec, hadd] at hx
     exact hx
    ·subst hw
     simp only [scanL, hk, hrec] at hx
     exact hq _ (hx _ _ _ (.inl rfl))
    ·subst hw
     simp only [scanL, hk, hrec, hadd] at hx
     exact hq _ (hx _ _ _ (.inl rfl))
   refine WR.seq (WR.seq (WR.reg (WQ.runS [] 1000 _ _ _ _ rfl (WQ.nilS ?_))))
   refine WR.block (WR.seq (WR.reg (WQ.runS [] 1000 _ _ _ _ rfl (WQ.nilS ?_))))
   have t1 := textF_ok b (a + 1) true (by omega) h8
   have t2 := textF_ok b _ (textF b (a + 1) true).2.2 t1.1 h8
   have n1 := numF_ok b (a + 1) true (by omega) h8
   by_cases hk1 : kind = 1
   ·rw [show decide ((kind : Int) = 1) = true from decide_eq_true (by omega)]
    refine WR.condT rfl ?_
    refine WR.seq (WR.reg (WQ.runS [] 1 _ _ _ _ rfl ?_))
    refine WQ.callH rfl rfl rfl rfl rfl (text_spec b (a + 1) true hlen (by omega) h8 (by decide) rfl) (.put .base rfl) rfl ?_
    refine WQ.runS [] 1000 _ _ _ _ rfl (WQ.nilS ?_)
    refine WR.reg (WQ.runS [] 1 _ _ _ _ rfl ?_)
    refine WQ.callH rfl rfl rfl rfl rfl (text_spec b _ _ hlen t1.1 h8 (by decide) rfl) (.put .base rfl) rfl ?_
    refine WQ.runS [] 1000 _ _ _ _ rfl (WQ.nilS ?_)
    refine WR.weak ?_ (close _ ⟨kind, (textF b (a + 1) true).1, (textF b (textF b (a + 1) true).2.1 (textF b (a + 1) true).2.2).1, 0, (textF b (textF b (a + 1) true).2.1 (textF b (a + 1) true).2.2).2.1⟩ (textF b (textF b (a + 1) true).2.1 (textF b (a + 1) true).2.2).2.2 (fun _ h => h) (by simp only [recF, if_pos hk1]))
    refine SW.tellR ?_ ?_
    ·repeat (first | exact .nil | refine .cons rfl (.v (VLe.refl _)) ?_ | refine .cons rfl (.l _ _ rfl) ?_ | refine .cons rfl (.v (VLe.unk _ _)) ?_)
    ·repeat (first | exact .nil | refine .cons rfl (.inl rfl) ?_)
   ·rw [show decide ((kind : Int) = 1) = false from decide_eq_false (by omega)]
    refine WR.condF rfl ?_
    refine WR.seq (WR.seq (WR.reg (WQ.runS [] 1000 _ _ _ _ rfl (WQ.nilS ?_))))
    have num : ∀ tm, kind = 2 ∨ kind = 3 → TellT tm [(4, [.int .i64 kind, .str [], .str [], .int .i64 0, .int .i64 0])] tmT → tg tm 30 = some (.v (.bool true)) → True := fun _ _ _ _ => trivial
    by_cases hk2 : kind = 2
    ·rw [show decide ((kind : Int) = 2) = true from decide_eq_true (by omega)]
     repeat (first | refine WR.seq ?_ | refine WR.block ?_ | refine WR.scope ?_ | refine WR.skip ?_ | refine WR.exit ?_ | refine WR.condT rfl ?_ | refine WR.condF rfl ?_ | refine WR.reg (WQ.runS [] 1000 _ _ _ _ rfl ?_) | refine WQ.nilS ?_ | refine WR.dreg hmix (DW.runS [] 1000 _ _ _ _ _ _ rfl ?_))
     refine WQ.callH rfl rfl rfl rfl rfl (num_spec b (a + 1) true hlen (by omega) h8 (by decide) rfl) (.put .base rfl) rfl ?_
     refine WQ.runS [] 1000 _ _ _ _ rfl (WQ.nilS ?_)
     refine WR.weak ?_ (close _ ⟨kind, [], [], (numF b (a + 1) true).1, (numF b (a + 1) true).2.1⟩ (numF b (a + 1) true).2.2 (fun _ h => h) (by simp only [recF, if_neg hk1, hk2]; rfl))
     refine SW.tellR ?_ ?_
     ·repeat (first | exact .nil | refine .cons rfl (.v (VLe.refl _)) ?_ | refine .cons rfl (.l _ _ rfl) ?_ | refine .cons rfl (.v (VLe.unk _ _)) ?_)
     ·repeat (first | exact .nil | refine .cons rfl (.inl rfl) ?_)
    ·rw [show decide ((kind : Int) = 2) = false from decide_eq_false (by omega)]
     refine WR.condF rfl (WR.reg (WQ.runS [] 1000 _ _ _ _ rfl (WQ.nilS ?_)))
     by_cases hk3 : kind = 3
     ·rw [show decide ((kind : Int) = 3) = true from decide_eq_true (by omega)]
      repeat (first | refine WR.seq ?_ | refine WR.block ?_ | refine WR.scope ?_ | refine WR.skip ?_ | refine WR.exit ?_ | refine WR.condT rfl ?_ | refine WR.condF rfl ?_ | refine WR.reg (WQ.runS [] 1000 _ _ _ _ rfl ?_) | refine WQ.nilS ?_ | refine WR.dreg hmix (DW.runS [] 1000 _ _ _ _ _ _ rfl ?_))
      refine WQ.callH rfl rfl rfl rfl rfl (num_spec b (a + 1) true hlen (by omega) h8 (by decide) rfl) (.put .base rfl) rfl ?_
      refine WQ.runS [] 1000 _ _ _ _ rfl (WQ.nilS ?_)
      refine WR.weak ?_ (close _ ⟨kind, [], [], (numF b (a + 1) true).1, (numF b (a + 1) true).2.1⟩ (numF b (a + 1) true).2.2 (fun _ h => h) (by simp only [recF, if_neg hk1, hk3]; rfl))
      refine SW.tellR ?_ ?_
      ·repeat (first | exact .nil | refine .cons rfl (.v (VLe.refl _)) ?_ | refine .cons rfl (.l _ _ rfl) ?_ | refine .cons rfl (.v (VLe.unk _ _)) ?_)
      ·repeat (first | exact .nil | refine .cons rfl (.inl rfl) ?_)
     ·rw [show decide ((kind : Int) = 3) = false from decide_eq_false (by omega)]
      repeat (first | refine WR.seq ?_ | refine WR.block ?_ | refine WR.scope ?_ | refine WR.skip ?_ | refine WR.exit ?_ | refine WR.condT rfl ?_ | refine WR.condF rfl ?_ | refine WR.reg (WQ.runS [] 1000 _ _ _ _ rfl ?_) | refine WQ.nilS ?_ | refine WR.dreg hmix (DW.runS [] 1000 _ _ _ _ _ _ rfl ?_))
      refine WR.ret ?_
      simp only [scanL, hk, show recF b a kind = none from by simp only [recF, if_neg hk1]; rw [if_neg (by omega)]] at hx
      exact hx _ _ _ (.inl rfl)
end Go.VM
end
section
/- The cache's file: Scan. -/
set_option maxRecDepth 100000
set_option linter.unusedVariables false
set_option linter.unusedSimpArgs false
namespace Go.VM
open Go.RowKit
theorem mem_ref {lv : V} {good last : Nat} {b : List Nat} {lp : ALoop} {a : Nat} {w : Bool} {row : OL} {nx : Nat} (hn : 1007 ≤ nx) (hlv : lv.In (· < nx)) (hrow : olIn (· < nx) row) (hlp : lp.tmps = tm12) :
  ∀ c o, c ≠ 1004 → og (mem lv good last b lp a w row) c = some o → ORefLt nx o := by
 intro c o h4 ho
 by_cases h5 : c = 1005
 ·subst h5
  cases ho
  refine loop_refLt (fun t v hv => ?_)
  rw [hlp] at hv
  have := tg_mem hv
  simp only [tm12, List.mem_cons, List.not_mem_nil, or_false, Prod.mk.injEq] at this
  rcases this with ⟨_, rfl⟩ | ⟨_, rfl⟩ | ⟨_, rfl⟩
  ·exact ⟨_, rfl, show 1000 < nx by omega⟩
  ·exact ⟨_, rfl, show 1001 < nx by omega⟩
  ·exact ⟨_, rfl, show 1002 < nx by omega⟩
 ·simp only [mem, og_cons] at ho
  split at ho
  ·cases ho; exact Obj.In.refLt (o := .cells false _) ⟨hlv, trivial⟩
  split at ho
  ·cases ho; exact Obj.In.refLt (o := .cells false _) ⟨trivial, trivial⟩
  split at ho
  ·cases ho; exact Obj.In.refLt (o := .cells false _) ⟨trivial, trivial⟩
  split at ho
  ·cases ho; exact Obj.In.refLt (o := .cells false _) ⟨trivial, trivial⟩
  split at ho
  ·cases ho; exact Obj.In.refLt (o := .cells false _) ⟨trivial, trivial, trivial, trivial⟩
  exact (olIn_get hrow c o ho).refLt
theorem lpE_tmps (j : Bool) (asC bdC : Code) : (lpE j asC bdC).tmps = tm12 := by cases j <;> rfl
noncomputable def pre (b : List Nat) (lp : ALoop) : OL := (1000, .cells false [.lst [] (.ex 0)]) :: (1001, .cells false [.int .i64 0]) :: (1002, .cells false [.int .i64 0]) :: (1003, .cells false [.str b]) :: (1004, .dfr (some [])) :: (1005, .loop lp) :: []
def sc0 : Sc := ⟨[], 0, 0⟩
def scanR (b : List Nat) : Sc × Nat × Bool × Bool := scanL b (b.length + 1) 0 sc0
theorem iter_spec {asC bdC : Code} (ha : resC Go.Proofs.Try.prog asC = some scA) (hb : resC Go.Proofs.Try.prog bdC = some scB) (b : List Nat) (hlen : b.length ≤ 700000000) (h8 : ∀ x ∈ b, x < 256) :
  SCall Go.Proofs.Try.prog [] 61 [.fn (.yield 1005) [] [], .ptr 1003 0] none ⟨1006, og (pre b (lpS .ready none asC bdC)), []⟩ (.ret (.tup [])) none ⟨nxF (scanR b).1.l, og (memF (scanR b).1 b (lpE (scanR b).2.2.2 asC bdC) (scanR b).2.1 (scanR b).2.2.1), []⟩ := by
 have hR := rowR_F (scanR b).1.l
 refine SCall.listedC (fn := Go.Proofs.Try.f61) (by kernel_rfl) res61 (by kernel_rfl) (by kernel_rfl) (by simp only [nxF]; omega) (mem_B hR.nx hR.rowB) (fun c hc => ?_) trivial ?_
 ·by_cases h4 : c = 1004
  ·subst h4; exact .inl rfl
  ·exact .inr fun o ho => mem_ref hR.nx hR.lvIn hR.rowIn (lpE_tmps _ _ _) c o h4 ho
 unfold rc61
 refine WR.seq (WR.reg (WQ.runS [7] 1000 _ _ _ _ rfl (WQ.nilS ?_)))
 refine WR.block (WR.loop (WLr.weak (s := SL.toS ⟨tmL, [], none, nxF sc0.l, memF sc0 b (lpS .ready none asC bdC) 0 true, []⟩) ?_ (scan_loop ha hb b hlen h8 (b.length + 1) 0 sc0 (by omega) (by omega) (Nat.le_refl _) (Nat.le_refl _) (fun tm lc x hx => ?_))))
 ·refine SW.tellR ?_ ?_
  ·repeat (first | exact .nil | refine .cons rfl (.v (VLe.refl _)) ?_ | refine .cons rfl (.l _ _ rfl) ?_ | refine .cons rfl (.v (VLe.unk _ _)) ?_)
  ·repeat (first | exact .nil | refine .cons rfl (.inl rfl) ?_)
 rcases hx with rfl | rfl
 ·exact ⟨rfl, _, .nil, ⟨_, rfl, VLe.refl _⟩, fun _ _ => rfl⟩
 ·exact ⟨rfl, _, .nil, ⟨_, rfl, VLe.refl _⟩, fun _ _ => rfl⟩
theorem records_core (b : List Nat) : SCall Go.Proofs.Try.prog [] 35 [.str b] none ⟨1000, og [], []⟩ (.ret (.fn (.func 61) [] [.ptr 1000 0])) none ⟨1001, og [(1000, .cells false [.str b])], []⟩ := by
 refine SCall.listed (fn := Go.Proofs.Try.f35) (by kernel_rfl) res35 (by kernel_rfl) (by kernel_rfl) (Nat.le_succ _) rfl ⟨⟨trivial, trivial⟩, trivial⟩ ⟨trivial, trivial, (by show (1000 : Nat) < 1001; decide), trivial⟩ ?_
 unfold rc35
 refine WR.seq (WR.reg (WQ.runS [1] 1000 _ _ _ _ rfl (WQ.nilS ?_)))
 refine WR.seq (WR.reg (WQ.runS [] 1000 _ _ _ _ rfl (WQ.nilS ?_)))
 refine WR.ret ⟨rfl, rfl, ⟨_, rfl, VLe.refl _⟩, fun b _ => rfl⟩
theorem records_spec (b : List Nat) (h : H) (hg : glim ≤ h.nxt) : SCall Go.Proofs.Try.prog [] 35 [.str b] none h (.ret (.fn (.func 61) [] [.ptr h.nxt 0])) none (h.new (.cells false [.str b])) := by
 have r0 : ρL [] h.nxt 1000 = h.nxt := (ρL_new (bs := []) (i := 1000) (Nat.le_refl _)).trans (by simp [glim])
 refine SCall.frameL (n := 1) [] rfl (records_core b) .nil (by simp) (fun i => ?_) rfl (fun i c o hi ho => by cases hi) trivial ⟨trivial, trivial⟩ ⟨trivial, trivial, (by show (1000 : Nat) < 1001; decide), trivial⟩ (by exact ⟨⟨trivial, trivial⟩, trivial⟩) rfl ?_ rfl rfl (fun i hi => ?_) (fun c hc => ?_)
 ·show (Option.isSome none = true) ↔ 1000 ≤ i ∧ i < 1000
  simp
 ·show V.fn (.func 61) [] [V.ptr (ρL [] h.nxt 1000) 0] = _
  rw [r0]
 ·have hi : i = 0 := by have : i < 1 := hi; omega
  subst hi
  show (h.new _).ob (ρL [] h.nxt 1000) = _
  rw [r0]
  show (if h.nxt = h.nxt then _ else _) = _
  rw [if_pos rfl]; rfl
 ·have : ρL [] h.nxt 1000 ≠ c := hc 0 (by show 0 < 1; decide)
  rw [r0] at this
  show (if c = h.nxt then _ else _) = _
  rw [if_neg (fun e => this e.symm)]
def memX (lv : V) (good last : Nat) (b : List Nat) (lp : ALoop) (a : Nat) (w : Bool) (row : OL) : OL :=
 (1000, .cells false [lv]) :: (1001, .cells false [.int .i64 good]) :: (1002, .cells false [.int .i64 last]) :: (1003, .cells false [.str b]) :: (1004, .dfr none) :: (1005, .loop lp) :: (1006, .cells false (rdV b a w)) :: row
theorem memX_ref {lv : V} {good last : Nat} {b : List Nat} {lp : ALoop} {a : Nat} {w : Bool} {row : OL} {nx : Nat} (hn : 1007 ≤ nx) (hlv : lv.In (· < nx)) (hrow : olIn (· < nx) row) (hlp : lp.tmps = tm12) :
  ∀ c o, og (memX lv good last b lp a w row) c = some o → ORefLt nx o := by
 intro c o ho
 by_cases h4 : c = 1004
 ·subst h4; cases ho
  exact fun E p w h => h
 ·refine mem_ref (lv := lv) (good := good) (last := last) (b := b) (lp := lp) (a := a) (w := w) (row := row) hn hlv hrow hlp c o h4 ?_
  simp only [mem, memX, og_cons, if_neg h4] at ho ⊢
  exact ho
theorem memX_B {lv : V} {good last : Nat} {b : List Nat} {lp : ALoop} {a : Nat} {w : Bool} {row : OL} {nx : Nat} (h : 1007 ≤ nx) (hr : olB nx row = true) : olB nx (memX lv good last b lp a w row) = true := by
 have e : ∀ k, k < 1007 → Nat.blt k nx = true := fun k hk => by rw [Nat.blt_eq]; omega
 simp only [memX, olB, e 1000 (by omega), e 1001 (by omega), e 1002 (by omega), e 1003 (by omega), e 1004 (by omega), e 1005 (by omega), e 1006 (by omega), hr, Bool.and_self]
theorem scan_core (b : List Nat) (hlen : b.length ≤ 700000000) (h8 : ∀ x ∈ b, x < 256) :
  ∃ lp : ALoop, SCall Go.Proofs.Try.prog [] 12 [.str b] none ⟨1000, og [], []⟩ (.ret (.tup [lvF (scanR b).1.l, .int .i64 (scanR b).1.good])) none ⟨nxF (scanR b).1.l, og (memX (lvF (scanR b).1.l) (scanR b).1.good (scanR b).1.last b lp (scanR b).2.1 (scanR b).2.2.1 (rowF (scanR b).1.l)), []⟩ := by
 have hR := rowR_F (scanR b).1.l
 have key := SCall.listedE (ι := Code × Code) (P := Go.Proofs.Try.prog) (gl := []) (f := 12) (fn := Go.Proofs.Try.f12) (rc := rc12) (args := [.str b]) (nx := 1000) (ol := []) (nx' := fun _ => nxF (scanR b).1.l)
  (ol' := fun c => memX (lvF (scanR b).1.l) (scanR b).1.good (scanR b).1.last b ⟨.exhausted, (if (scanR b).2.2.2 then some (.exit 0) else none), 12, false, tm12, Go.Proofs.Try.f12.ntmps, [8], c.1, c.2⟩ (scanR b).2.1 (scanR b).2.2.1 (rowF (scanR b).1.l))
  (v := fun _ => .tup [lvF (scanR b).1.l, .int .i64 (scanR b).1.good]) (by kernel_rfl) res12 (by kernel_rfl) (by kernel_rfl) (fun _ => by simp only [nxF]; omega) (fun _ => memX_B hR.nx hR.rowB) (fun _ c hc => .inr fun o ho => memX_ref hR.nx hR.lvIn hR.rowIn rfl c o ho) (fun _ => ⟨hR.lvIn, trivial, trivial⟩) ?_
 ·obtain ⟨i, hi⟩ := key
  exact ⟨_, hi⟩
 unfold rc12
 refine WR.seq (WR.reg (WQ.runS [2, 3] 1000 _ _ _ _ rfl (WQ.nilS ?_)))
 refine WR.scope (WR.seq (WR.reg (WQ.runS [4] 1000 _ _ _ _ rfl (WQ.nilS ?_))))
 refine WR.seq (WR.skip ?_)
 refine WR.seq (WR.seq (WR.reg (WQ.runS [] 1 _ _ _ _ rfl ?_)))
 refine WQ.callH rfl rfl rfl rfl rfl (records_spec b _ (by decide)) (.new .base rfl) rfl (WQ.nilS ?_)
 refine WR.block (WR.rng tm12 rfl rfl ?_ rfl (fun asC bdC ha hb => ?_))
 ·repeat (first | exact .nil | refine .cons rfl (.v (VLe.refl _)) ?_)
 refine ⟨_, _, _, lpE (scanR b).2.2.2 asC bdC, if (scanR b).2.2.2 then .exit 0 else .norm, iter_spec ha hb b hlen h8, rfl, ?_, ?_, ?_⟩
 ·cases (scanR b).2.2.2 <;> simp [lpE, lpS]
 ·cases (scanR b).2.2.2 <;> rfl
 generalize scanR b = R
 obtain ⟨⟨l, good, last⟩, a, w, j⟩ := R
 have fin : ∀ (lp : ALoop) (c : Nat), og (memX (lvF l) good last b lp a w (rowF l)) c = ((⟨nxF l, og (mem (lvF l) good last b lp a w (rowF l)), []⟩ : H).put 1004 (.dfr none)).ob c := fun lp c => by rw [og_put]; rfl
 cases j with
 | false =>
  show WR Go.Proofs.Try.prog [] _ rc12_J1 _ _ _
  unfold rc12_J1
  cases l with
  | nil =>
   refine WR.seq (WR.dreg hmix (DW.runS [] 1000 _ _ _ _ _ _ rfl ?_))
   refine DW.stS (by repeat (first | exact .nil | refine PendR.passM rfl ?_ | refine PendR.sameM rfl ?_ | refine PendR.lightM rfl ?_)) rfl rfl rfl rfl ?_
   refine DW.stS (by repeat (first | exact .nil | refine PendR.passM rfl ?_ | refine PendR.sameM rfl ?_ | refine PendR.lightM rfl ?_)) rfl rfl rfl rfl ?_
   refine DW.runS [] 1000 _ _ _ _ _ _ rfl ?_
   refine DW.finS (by repeat (first | exact .nil | refine PendR.passM rfl ?_ | refine PendR.sameM rfl ?_ | refine PendR.lightM rfl ?_)) ?_
   exact WR.ret ⟨(asC, bdC), rfl, _, .cons rfl .nil, ⟨_, rfl, VLe.refl _⟩, fun c _ => fin _ c⟩
  | cons e l =>
   refine WR.seq (WR.dreg hmix (DW.runS [] 1000 _ _ _ _ _ _ rfl ?_))
   refine DW.stS (by repeat (first | exact .nil | refine PendR.passM rfl ?_ | refine PendR.sameM rfl ?_ | refine PendR.lightM rfl ?_)) rfl rfl rfl rfl ?_
   refine DW.stS (by repeat (first | exact .nil | refine PendR.passM rfl ?_ | refine PendR.sameM rfl ?_ | refine PendR.lightM rfl ?_)) rfl rfl rfl rfl ?_
   refine DW.runS [] 1000 _ _ _ _ _ _ rfl ?_
   refine DW.finS (by repeat (first | exact .nil | refine PendR.passM rfl ?_ | refine PendR.sameM rfl ?_ | refine PendR.lightM rfl ?_)) ?_
   exact WR.ret ⟨(asC, bdC), rfl, _, .cons rfl .nil, ⟨_, rfl, VLe.refl _⟩, fun c _ => fin _ c⟩
 | true =>
  show WR Go.Proofs.Try.prog [] _ rc12_J1 _ _ _
  unfold rc12_J1
  cases l with
  | nil =>
   refine WR.seq (WR.dreg hmix (DW.runS [] 1000 _ _ _ _ _ _ rfl ?_))
   refine DW.stS (by repeat (first | exact .nil | refine PendR.passM rfl ?_ | refine PendR.sameM rfl ?_ | refine PendR.lightM rfl ?_)) rfl rfl rfl rfl ?_
   refine DW.stS (by repeat (first | exact .nil | refine PendR.passM rfl ?_ | refine PendR.sameM rfl ?_ | refine PendR.lightM rfl ?_)) rfl rfl rfl rfl ?_
   refine DW.runS [] 1000 _ _ _ _ _ _ rfl ?_
   refine DW.finS (by repeat (first | exact .nil | refine PendR.passM rfl ?_ | refine PendR.sameM rfl ?_ | refine PendR.lightM rfl ?_)) ?_
   exact WR.ret ⟨(asC, bdC), rfl, _, .cons rfl .nil, ⟨_, rfl, VLe.refl _⟩, fun c _ => fin _ c⟩
  | cons e l =>
   refine WR.seq (WR.dreg hmix (DW.runS [] 1000 _ _ _ _ _ _ rfl ?_))
   refine DW.stS (by repeat (first | exact .nil | refine PendR.passM rfl ?_ | refine PendR.sameM rfl ?_ | refine PendR.lightM rfl ?_)) rfl rfl rfl rfl ?_
   refine DW.stS (by repeat (first | exact .nil | refine PendR.passM rfl ?_ | refine PendR.sameM rfl ?_ | refine PendR.lightM rfl ?_)) rfl rfl rfl rfl ?_
   refine DW.runS [] 1000 _ _ _ _ _ _ rfl ?_
   refine DW.finS (by repeat (first | exact .nil | refine PendR.passM rfl ?_ | refine PendR.sameM rfl ?_ | refine PendR.lightM rfl ?_)) ?_
   exact WR.ret ⟨(asC, bdC), rfl, _, .cons rfl .nil, ⟨_, rfl, VLe.refl _⟩, fun c _ => fin _ c⟩
end Go.VM
end
section
/- The cache: Scan, whose list is its caller's own. -/
set_option maxRecDepth 100000
set_option linter.unusedVariables false
set_option linter.unusedSimpArgs false
namespace Go.VM
open Go.RowKit
def toZ (e : Ent) : EZ := ⟨e.k, e.v, e.live, (e.last : Int)⟩
theorem flat_toZ (l : List Ent) : flat l = flatZ (l.map toZ) := by
 induction l with
 | nil => rfl
 | cons e l ih => rw [flat_cons, ih]; rfl
def scRow (nx : Nat) (l : List EZ) : Nat := nx + 7 + (l.length - 1)
def scH (h : H) (l : List EZ) : H := ⟨h.nxt + 7 + l.length, fun k => if l ≠ [] ∧ k = scRow h.nxt l then some (.cells true (flatZ l)) else h.ob k, h.lc⟩
theorem scan_own_core (b : List Nat) (hlen : b.length ≤ 700000000) (h8 : ∀ x ∈ b, x < 256) :
  SCall Go.Proofs.Try.prog [] 12 [.str b] none ⟨1000, og [], []⟩ (.ret (.tup [lvF (scanR b).1.l, .int .i64 (scanR b).1.good])) none ⟨nxF (scanR b).1.l, og (rowF (scanR b).1.l), []⟩ := by
 obtain ⟨lp, hc⟩ := scan_core b hlen h8
 generalize scanR b = R at hc
 obtain ⟨⟨l, good, last⟩, a, w, j⟩ := R
 refine hc.drop rfl rfl (fun c o ho => ?_) (fun c hc => ?_)
 ·cases l with
  | nil => cases ho
  | cons e l =>
   have ho : og [(1007 + l.length, Obj.cells true (flat (e :: l)))] c = some o := ho
   rw [og_one] at ho
   by_cases h1 : c = 1007 + l.length
   ·rw [if_pos h1] at ho
    cases ho
    subst h1
    show og (memX _ _ _ _ _ _ _ _) (1007 + l.length) = _
    simp only [memX, rowF, og_cons]
    repeat rw [if_neg (by omega)]
    rw [if_pos trivial]
   ·rw [if_neg h1] at ho; cases ho
 ·have hc : c < 1000 := hc
  cases l with
  | nil =>
   show none = og (memX _ _ _ _ _ _ _ _) c
   simp only [memX, rowF, og_cons]
   repeat rw [if_neg (by omega)]
   rfl
  | cons e l =>
   show og [(1007 + l.length, Obj.cells true (flat (e :: l)))] c = og (memX _ _ _ _ _ _ _ _) c
   simp only [memX, rowF, og_cons]
   repeat rw [if_neg (by omega)]
theorem scan_own (b : List Nat) (hlen : b.length ≤ 700000000) (h8 : ∀ x ∈ b, x < 256) (h : H) :
  SCall Go.Proofs.Try.prog [] 12 [.str b] none h (.ret (.tup [clV (scRow h.nxt ((scanR b).1.l.map toZ)) ((scanR b).1.l.map toZ), .int .i64 (scanR b).1.good])) none (scH h ((scanR b).1.l.map toZ)) := by
 have core := scan_own_core b hlen h8
 refine SCall.known rfl core.fn fun bg => ?_
 obtain ⟨E, F, w0, w, args', bg⟩ := bg
 have hfr := fun c (hc : h.nxt ≤ c) => (bg.mr.fresh c hc).2.1
 generalize (scanR b).1.good = good at core ⊢
 generalize (scanR b).1.l = l at core ⊢
 have rhi : ∀ i, ρL [] h.nxt (1000 + i) = h.nxt + i := fun i => (ρL_new (bs := []) (by show 1000 + 0 ≤ 1000 + i; omega)).trans (by show h.nxt + (1000 + i - (1000 + 0)) = _; omega)
 have hlv : lvF l = clV (1007 + (l.length - 1)) (l.map toZ) := by
  cases l with
  | nil => rfl
  | cons e l => simp [lvF, clV]
 have hrow : ∀ c, og (rowF l) c = if l ≠ [] ∧ c = 1007 + (l.length - 1) then some (.cells true (flatZ (l.map toZ))) else none := by
  intro c
  cases l with
  | nil => simp [rowF, og]
  | cons e l => rw [← flat_toZ]; simp [rowF, og_cons, og]
 have hin : olIn (· < nxF l) (rowF l) := (rowR_F l).rowIn
 have hB : olB (nxF l) (rowF l) = true := (rowR_F l).rowB
 have hlt : (lvF l).In (· < nxF l) := (rowR_F l).lvIn
 have hnx : nxF l = glim + ([] : List Nat).length + (7 + l.length) := by simp [nxF, glim]; omega
 rw [hnx] at core hin hB hlt
 refine SCall.frameL (n := 7 + l.length) (ol := []) (ol' := rowF l) (args := [.str b]) (v := .tup [lvF l, .int .i64 good]) [] rfl core .nil (by simp) (fun i => ?_) hB (fun i c o hi ho => by cases hi) trivial ⟨trivial, trivial⟩ ⟨hlt, trivial, trivial⟩ hin rfl ?_ rfl ?_ (fun i hi => ?_) (fun c hc => ?_)
 ·show (Option.isSome none = true) ↔ 1000 ≤ i ∧ i < 1000
  simp
 ·show V.tup [(lvF l).ren _, .int .i64 good] = _
  rw [hlv, clV_ren]
  rw [show 1007 + (l.length - 1) = 1000 + (7 + (l.length - 1)) by omega, rhi]
  simp only [scRow, List.length_map]
  rw [show h.nxt + (7 + (l.length - 1)) = h.nxt + 7 + (l.length - 1) by omega]
 ·show h.nxt + 7 + (l.map toZ).length = h.nxt + (7 + l.length)
  rw [List.length_map]; omega
 ·show (if l.map toZ ≠ [] ∧ ρL [] h.nxt (1000 + i) = scRow h.nxt (l.map toZ) then _ else h.ob (ρL [] h.nxt (1000 + i))) = (og (rowF l) (1000 + i)).map _
  rw [rhi, hrow]
  simp only [scRow, List.length_map]
  by_cases hne : l = []
  ·subst hne
   rw [if_neg (by simp), if_neg (by simp)]
   exact hfr _ (by omega)
  ·by_cases hi2 : i = 7 + (l.length - 1)
   ·rw [if_pos ⟨by simpa using hne, by omega⟩, if_pos ⟨hne, by omega⟩]
    show _ = some (Obj.cells true (rens _ (flatZ _)))
    rw [flatZ_ren]
   ·rw [if_neg (fun q => by omega), if_neg (fun q => by omega)]
    exact hfr _ (by omega)
 ·show (if l.map toZ ≠ [] ∧ c = scRow h.nxt (l.map toZ) then _ else _) = _
  rw [if_neg]
  rintro ⟨h1, h2⟩
  have hl : l ≠ [] := by simpa using h1
  have hp := List.length_pos_iff.2 hl
  have := hc (7 + (l.length - 1)) (by show _ < 0 + (7 + l.length); omega)
  rw [show glim + (7 + (l.length - 1)) = 1000 + (7 + (l.length - 1)) from rfl, rhi] at this
  simp only [scRow, List.length_map] at h2
  omega
end Go.VM
end
