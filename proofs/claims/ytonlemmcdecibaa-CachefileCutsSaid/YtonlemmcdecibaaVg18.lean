/- laid for this seat: VcLasts2 VcLasts3 VcAwake VcAwake2 VcCuts VcCuts2 VcCuts3 VcCuts4 VcCuts5 VcLoc -/
import Derived.Test.YtonlemmcdecibaaVg17
import Derived.Test.YtonlemmcdecibaaVg16
section
/- CachefileLasts: the loop. -/
set_option maxRecDepth 100000
set_option linter.unusedVariables false
set_option linter.unusedSimpArgs false
namespace Go.VM
open Go.RowKit
theorem keysC_small {C : CSt} (g : GoodC C) {d : Dk} {x n z : Nat} (bud : Bud d C x n z) : (keysC C).length ≤ 1000000 ∧ ∀ k ∈ keysC C, k.length ≤ 1000000 := by
 rw [← keysC_eq g]
 refine ⟨?_, fun k hk => ?_⟩
 ·rw [List.length_map]
  have h1 := keptF_len C.L C.most C.bytes
  have h2 := bud.L
  omega
 ·obtain ⟨i, h1, h2⟩ := List.mem_map.1 hk
  have hlt := keptF_mem h1
  have he := List.getElem?_eq_getElem hlt
  have hs := bud.sz _ (List.mem_of_getElem? he)
  rw [← h2]
  unfold keyL
  rw [he]
  unfold sizeZ at hs
  show (C.L[i]).k.length ≤ _
  omega
structure LInv (most bytes : Int) (d : Dk) (C : CSt) (ms : List (List Nat)) (nx c r m : Nat) : Prop where
 rel : Rel d C
 good : GoodC C
 fine : Fine d
 hm : C.most = most
 hb : C.bytes = bytes
 keys : keysC C = ms
 at_ : At nx c r
 bud : Bud d C (3400000 * m) m (7000 * m)
theorem OO_low {d : Dk} {C : CSt} {nx c r : Nat} (a : At nx c r) (b : Nat) (hb : b < 1000) : og [] b = og (OO d C c r) b := by
 obtain ⟨h1, h2, h3, h4, h5⟩ := a
 rw [OO_get, if_neg (by omega), if_neg (by omega), if_neg (by omega), if_neg (by omega)]; rfl
def laLc (ms : List (List Nat)) (most bytes : Int) : LM := [(13, [.lst (ms.map kst) .unk, .int .i64 most, .int .i64 bytes])]
end Go.VM
end
section
/- CachefileLasts: the walk. -/
set_option maxRecDepth 100000
set_option linter.unusedVariables false
set_option linter.unusedSimpArgs false
namespace Go.VM
open Go.RowKit
def C0 (most bytes : Int) : CSt := ⟨most, bytes, 0, 0, [], 0⟩
theorem ordK_nil : ordK [] = [] := by
 unfold ordK
 have : orderF [] = [] := List.eq_nil_iff_forall_not_mem.2 (fun x h => by
  obtain ⟨e, q, _⟩ := mem_order.1 h
  simp at q)
 rw [this]; rfl
theorem rel0 (most bytes : Int) : Rel d0 (C0 most bytes) := ⟨⟨⟨sc0, .z, rfl, rfl⟩, rfl, fun x hx => nomatch hx⟩, rfl, .inl rfl⟩
theorem good0 (most bytes : Int) : GoodC (C0 most bytes) := ⟨fun e he => (by cases he), fun e he => (by cases he), fun e he => (by cases he)⟩
end Go.VM
end
section
/- awake: the walk. -/
set_option maxRecDepth 100000
set_option linter.unusedVariables false
set_option linter.unusedSimpArgs false
namespace Go.VM
open Go.RowKit
def keysF (L : List EZ) (out : List Nat) : List Nat := L.foldl (fun o e => o ++ e.k ++ [32]) out
theorem keys_loop {QN : S → Prop} {QX : X → S → Prop} (L : List EZ) (nx : Nat) (ol : OL) (hL : L.length ≤ 1000) (hk : ∀ e ∈ L, e.k.length ≤ 1000) : ∀ (m i : Nat) (out : List Nat), i + m = L.length → out.length ≤ 1001 * i →
  (∀ tm, tg tm 3 = some (.v (.str (keysF (L.drop i) out))) → QX (.exit 0) (SL.toS ⟨tm, [], none, nx, ol, []⟩)) →
  WLr Go.Proofs.Try.prog [] ⟨Go.Proofs.Try.f34.ntmps, none, 34⟩ rc34_L1 (SL.toS ⟨[(0, .v (.lst (L.map encZ) .unk)), (3, .v (.str out)), (4, .v (.int .i64 i))], [], none, nx, ol, []⟩) QN QX := by
 intro m
 have hl : (L.map encZ).length = L.length := List.length_map ..
 induction m with
 | zero =>
  intro i out hi ho hx
  unfold rc34_L1
  refine WLr.of ?_
  refine WR.seq (WR.seq (WR.reg (WQ.runS [] 1000 _ _ _ _ rfl (WQ.nilS ?_))))
  rw [show decide ((i : Int) < ((L.map encZ).length : Int)) = false from decide_eq_false (by omega)]
  refine WR.condF rfl (WR.exit ?_)
  rw [List.drop_eq_nil_iff.2 (by omega)] at hx
  exact hx _ rfl
 | succ m ih =>
  intro i out hi ho hx
  have hlt : i < L.length := by omega
  obtain ⟨e, he⟩ : ∃ e, L[i]? = some e := ⟨_, List.getElem?_eq_getElem hlt⟩
  have hd : L.drop i = e :: L.drop (i + 1) := by
   rw [List.drop_eq_getElem_cons hlt]
   congr 1
   rw [List.getElem?_eq_getElem hlt] at he; exact Option.some.inj he
  have g1 : (L.map encZ)[i]? = some (encZ e) := by rw [List.getElem?_map, he]; rfl
  have hek := hk e (List.mem_of_getElem? he)
  rw [hd] at hx
  unfold rc34_L1
  refine WLr.of ?_
  refine WR.seq (WR.seq (WR.reg (WQ.runS [] 1000 _ _ _ _ rfl (WQ.nilS ?_))))
  rw [show decide ((i : Int) < ((L.map encZ).length : Int)) = true from decide_eq_true (by omega)]
  refine WR.condT rfl (WR.skip ?_)
  refine WR.seq (WR.block (WR.reg (WQ.runS [] 3 _ _ _ _ rfl ?_)))
  refine WQ.lightS rfl rfl rfl (ia_at rfl rfl g1 rfl) rfl (WQ.runS [] 2 _ _ _ _ rfl ?_)
  refine WQ.lightS rfl rfl rfl (add_str rfl rfl (by unfold lim; omega) _) rfl ?_
  refine WQ.lightS rfl rfl rfl (add_str rfl rfl (by simp [lim]; omega) _) rfl (WQ.runS [] 1000 _ _ _ _ rfl (WQ.nilS ?_))
  unfold rc34_J1
  refine WR.reg (WQ.runS [] 1000 _ _ _ _ rfl (WQ.nilS ?_))
  rw [show IntKind.i64.wrap ((i : Int) + 1) = ((i + 1 : Nat) : Int) from by rw [wrap64 (by omega) (by omega)]; rfl]
  refine WIr.again (WLr.weak ?_ (ih (i + 1) (out ++ e.k ++ [32]) (by omega) (by simp; omega) hx))
  refine SW.tellR ?_ ?_
  ·repeat (first | exact .nil | refine .cons rfl (.v (VLe.refl _)) ?_ | refine .cons rfl (.l _ _ rfl) ?_ | refine .cons rfl (.v (VLe.unk _ _)) ?_)
  ·repeat (first | exact .nil | refine .cons rfl (.inl rfl) ?_)
theorem keysS_spec (L : List EZ) (hL : L.length ≤ 1000) (hk : ∀ e ∈ L, e.k.length ≤ 1000) (h : H) : SCall Go.Proofs.Try.prog [] 34 [.lst (L.map encZ) .unk] none h (.ret (.str (keysF L []))) none h := by
 refine SCall.pure0 rfl ?_ (by exact ⟨⟨encZs_in _, trivial⟩, trivial⟩) (by exact trivial) h
 refine SCall.listed (fn := Go.Proofs.Try.f34) (by kernel_rfl) res34 (by kernel_rfl) (by kernel_rfl) (Nat.le_refl _) rfl (trivial) trivial ?_
 unfold rc34
 refine WR.seq (WR.reg (WQ.runS [] 1000 _ _ _ _ rfl (WQ.nilS ?_)))
 refine WR.seq (WR.reg (WQ.runS [] 1000 _ _ _ _ rfl (WQ.nilS ?_)))
 refine WR.seq (WR.seq (WR.reg (WQ.runS [] 1000 _ _ _ _ rfl (WQ.nilS ?_))))
 refine WR.block (WR.loop ?_)
 refine WLr.weak ?_ (keys_loop L 1000 [] hL hk L.length 0 [] (by omega) (by simp) (fun tm t3 => ?_))
 ·refine SW.tellR ?_ ?_
  ·repeat (first | exact .nil | refine .cons rfl (.v (VLe.refl _)) ?_ | refine .cons rfl (.l _ _ rfl) ?_ | refine .cons rfl (.v (VLe.unk _ _)) ?_)
  ·repeat (first | exact .nil | refine .cons rfl (.inl rfl) ?_)
 ·rw [List.drop_zero] at t3
  show WR Go.Proofs.Try.prog [] _ rc34_J2 _ _ _
  refine WR.weak (s := SL.toS ⟨[(3, .v (.str (keysF L [])))], [], none, 1000, [], []⟩) (SW.tellR (.cons t3 (.v (VLe.refl _)) .nil) .nil) ?_
  unfold rc34_J2
  refine WR.seq (WR.reg (WQ.runS [] 1000 _ _ _ _ rfl (WQ.nilS ?_)))
  refine WR.ret ⟨rfl, rfl, ⟨_, rfl, VLe.refl _⟩, fun b _ => rfl⟩
def putRow (nx r : Nat) (d : Dk) (C : CSt) (k v : List Nat) : Nat := if putR d C k v = 1003 then r else nx + (putR d C k v - 1004)
theorem put_at {nx c r : Nat} {d : Dk} {C : CSt} {lc : LM} (a : At nx c r) (k v : List Nat) (hkv : k.length + v.length ≤ 1000) (bud : Bud d C 2000 1 20) :
  SCall Go.Proofs.Try.prog [] 23 [.ptr c 0, .str k, .str v] none ⟨nx, og (OO d C c r), lc⟩ (.ret (.int .i64 (putP d C k v).2.2)) none ⟨nx + putNn d C k v, og (OO (putP d C k v).1 (putP d C k v).2.1 c (putRow nx r d C k v)), lc⟩ ∧ At (nx + putNn d C k v) c (putRow nx r d C k v) := by
 have hR := putR_ok d C k v
 have := cache_liftR (put_core k v hkv bud) hR.1 hR.2 (by exact ⟨trivial, trivial, trivial⟩) trivial (a.hc (d := d) (C := C) (lc := lc)) (by show 1000 < nx; have := a.c0; have := a.cn; omega) (by show 1001 < nx; have := a.c0; have := a.cn; omega) a.cn a.rn
 have e : rowAtR ⟨nx, og (OO d C c r), lc⟩ r (putR d C k v) = putRow nx r d C k v := rfl
 have hq : putRow nx r d C k v = r ∨ (nx ≤ putRow nx r d C k v ∧ putRow nx r d C k v < nx + putNn d C k v) := by
  unfold putRow
  split
  ·exact .inl rfl
  ·right; omega
 rw [e, hcq_At a hq] at this
 obtain ⟨h1, h2, h3, h4, h5⟩ := a
 exact ⟨this, by omega, by omega, by omega, by omega, by omega⟩
def getRow (nx r : Nat) (d : Dk) (C : CSt) (k : List Nat) : Nat := if getR d C k = 1003 then r else nx + (getR d C k - 1004)
theorem getC_at {nx c r : Nat} {d : Dk} {C : CSt} {lc : LM} (a : At nx c r) (k : List Nat) (bud : Bud d C 100 0 10) :
  SCall Go.Proofs.Try.prog [] 22 [.ptr c 0, .str k] none ⟨nx, og (OO d C c r), lc⟩ (.ret (getW d C k)) none ⟨nx + getN d C k, og (OO (getP d C k).1 (getP d C k).2 c (getRow nx r d C k)), lc⟩ ∧ At (nx + getN d C k) c (getRow nx r d C k) := by
 have hR := getR_ok d C k
 have := cache_liftR (get_core k bud) hR.1 hR.2 (by exact ⟨trivial, trivial⟩) (getW_in d C k) (a.hc (d := d) (C := C) (lc := lc)) (by show 1000 < nx; have := a.c0; have := a.cn; omega) (by show 1001 < nx; have := a.c0; have := a.cn; omega) a.cn a.rn
 have e : rowAtR ⟨nx, og (OO d C c r), lc⟩ r (getR d C k) = getRow nx r d C k := rfl
 have hq : getRow nx r d C k = r ∨ (nx ≤ getRow nx r d C k ∧ getRow nx r d C k < nx + getN d C k) := by
  unfold getRow
  split
  ·exact .inl rfl
  ·right; omega
 rw [e, hcq_At a hq] at this
 obtain ⟨h1, h2, h3, h4, h5⟩ := a
 exact ⟨this, by omega, by omega, by omega, by omega, by omega⟩
theorem kept_at {nx c r : Nat} {d : Dk} {C : CSt} {lc : LM} (a : At nx c r) (cf : CFit C) :
  SCall Go.Proofs.Try.prog [] 25 [.ptr c 0] none ⟨nx, og (OO d C c r), lc⟩ (.ret (.lst ((runP C.L C.most C.bytes).map encZ) .unk)) none ⟨nx, og (OO d C c r), lc⟩ := by
 have := cache_liftR (d' := d) (C' := C) (r' := 1003) (n := 0) (keptCore d C 1003 1004 (Nat.le_refl _) (by omega) cf) (Nat.le_refl _) (by omega) trivial (by exact ⟨encZs_in _, trivial⟩) (a.hc (d := d) (C := C) (lc := lc)) (by show 1000 < nx; have := a.c0; have := a.cn; omega) (by show 1001 < nx; have := a.c0; have := a.cn; omega) a.cn a.rn
 have e : rowAtR ⟨nx, og (OO d C c r), lc⟩ r 1003 = r := rfl
 rw [e, hcq_At a (.inl rfl)] at this
 exact this
end Go.VM
end
section
/- awake: the walk, all of it. -/
set_option maxRecDepth 100000
set_option linter.unusedVariables false
set_option linter.unusedSimpArgs false
namespace Go.VM
open Go.RowKit
def aw1 : Dk × CSt × Int := putP d0 (C0 2 10) [97] [49]
def aw2 : Dk × CSt × Int := putP aw1.1 aw1.2.1 [98] [50]
def aw3 : Dk × CSt := getP aw2.1 aw2.2.1 [97]
def aw4 : Dk × CSt × Int := putP aw3.1 aw3.2 [99] [51]
def aw5 : Dk × CSt × Int := putP aw4.1 aw4.2.1 [100] [49, 50, 51, 52, 53, 54, 55, 56, 57, 48]
def budB (d : Dk) (C : CSt) : Bool := decide (d.a0.length + 2000 ≤ 690000000) && decide (d.a1.length + 2000 ≤ 690000000) && decide (d.ws.length + 20 ≤ 99000000) && decide (d.fuse < 9223372036854775808) && decide (C.len + 2000 ≤ 690000000) && decide (C.L.length + 1 ≤ 3310) && decide (0 ≤ C.last) && decide (C.last + 20 ≤ 690000000) && C.L.all (fun e => decide (sizeZ e ≤ 1000)) && decide (-9223372036854775808 ≤ C.bytes) && decide (C.bytes < 9223372036854775808) && decide (C.root = 0 ∨ C.root = 1)
theorem bud_of {d : Dk} {C : CSt} (h : budB d C = true) : Bud d C 2000 1 20 := by
 simp only [budB, Bool.and_eq_true, decide_eq_true_eq, List.all_eq_true] at h
 obtain ⟨⟨⟨⟨⟨⟨⟨⟨⟨⟨⟨h1, h2⟩, h3⟩, h4⟩, h5⟩, h6⟩, h7⟩, h8⟩, h9⟩, h10⟩, h11⟩, h12⟩ := h
 exact ⟨h1, h2, h3, h4, h5, h6, h7, h8, h9, h10, h11, h12⟩
theorem awake_core : SCall Go.Proofs.Try.prog [] 11 [] none ⟨1000, og [], []⟩ (.ret (.bool true)) none ⟨1000, og [], []⟩ := by
 have new := new_call ⟨1000, og [], []⟩
 rw [nd_dol] at new
 have b0 : Bud d0 (C0 2 10) 2000 1 20 := bud_of (by decide +kernel)
 have b1 : Bud aw1.1 aw1.2.1 2000 1 20 := bud_of (by decide +kernel)
 have b2 : Bud aw2.1 aw2.2.1 2000 1 20 := bud_of (by decide +kernel)
 have b3 : Bud aw3.1 aw3.2 2000 1 20 := bud_of (by decide +kernel)
 have b4 : Bud aw4.1 aw4.2.1 2000 1 20 := bud_of (by decide +kernel)
 have b5 : Bud aw5.1 aw5.2.1 2000 1 20 := bud_of (by decide +kernel)
 obtain ⟨op, at0⟩ := open_at (nx := 1002) (lc := []) (Nat.le_refl _) (rel0 2 10) rfl b0 (by decide) (by decide)
 have op : SCall Go.Proofs.Try.prog [] 18 [.ptr 1000 0, .int .i64 2, .int .i64 10] none ⟨1002, og (dol d0), []⟩ (.ret (.tup [.ptr 1010 0, .int .i64 0])) none ⟨1011, og (OO d0 (C0 2 10) 1010 1009), []⟩ := op
 have at0 : At 1011 1010 1009 := at0
 obtain ⟨p1, at1⟩ := put_at (lc := []) at0 [97] [49] (by decide) b0
 obtain ⟨p2, at2⟩ := put_at (lc := []) at1 [98] [50] (by decide) b1
 obtain ⟨p3, at3⟩ := getC_at (lc := []) at2 [97] (b2.mono : Bud aw2.1 aw2.2.1 100 0 10)
 obtain ⟨p4, at4⟩ := put_at (lc := []) at3 [99] [51] (by decide) b3
 have q4 := kept_at (d := aw4.1) (lc := []) at4 b4.comp.cf
 obtain ⟨p5, at5⟩ := put_at (lc := []) at4 [100] [49, 50, 51, 52, 53, 54, 55, 56, 57, 48] (by decide) b4
 have q5 := kept_at (d := aw5.1) (lc := []) at5 b5.comp.cf
 have r4 := keysS_spec (runP aw4.2.1.L aw4.2.1.most aw4.2.1.bytes) (by decide +kernel) (by decide +kernel)
 have r5 := keysS_spec (runP aw5.2.1.L aw5.2.1.most aw5.2.1.bytes) (by decide +kernel) (by decide +kernel)
 have sc := scan_spec [1] (by decide) (by decide)
 have w3 : getW aw2.1 aw2.2.1 [97] = .tup [.str [49], .bool true, .int .i64 0] := by kernel_rfl
 have w4 : (putP aw3.1 aw3.2 [99] [51]).2.2 = 0 := by decide +kernel
 have w5 : (putP aw4.1 aw4.2.1 [100] [49, 50, 51, 52, 53, 54, 55, 56, 57, 48]).2.2 = 0 := by decide +kernel
 have k4 : keysF (runP aw4.2.1.L aw4.2.1.most aw4.2.1.bytes) [] = [99, 32, 97, 32] := by decide +kernel
 have k5 : keysF (runP aw5.2.1.L aw5.2.1.most aw5.2.1.bytes) [] = [99, 32, 97, 32] := by decide +kernel
 have ws : scanV [1] = .tup [.lst [] .unk, .int .i64 0] := by kernel_rfl
 rw [ws] at sc
 rw [w3] at p3
 rw [w4] at p4
 rw [w5] at p5
 rw [k4] at r4
 rw [k5] at r5
 generalize runP aw4.2.1.L aw4.2.1.most aw4.2.1.bytes = R4 at q4 r4
 generalize runP aw5.2.1.L aw5.2.1.most aw5.2.1.bytes = R5 at q5 r5
 generalize putRow 1011 1009 d0 (C0 2 10) [97] [49] = x1 at *
 generalize 1011 + putNn d0 (C0 2 10) [97] [49] = n1 at *
 generalize putRow n1 x1 aw1.1 aw1.2.1 [98] [50] = x2 at *
 generalize n1 + putNn aw1.1 aw1.2.1 [98] [50] = n2 at *
 generalize getRow n2 x2 aw2.1 aw2.2.1 [97] = x3 at *
 generalize n2 + getN aw2.1 aw2.2.1 [97] = n3 at *
 generalize putRow n3 x3 aw3.1 aw3.2 [99] [51] = x4 at *
 generalize n3 + putNn aw3.1 aw3.2 [99] [51] = n4 at *
 generalize putRow n4 x4 aw4.1 aw4.2.1 [100] [49, 50, 51, 52, 53, 54, 55, 56, 57, 48] = x5 at *
 generalize n4 + putNn aw4.1 aw4.2.1 [100] [49, 50, 51, 52, 53, 54, 55, 56, 57, 48] = n5 at *
 refine SCall.listed (fn := Go.Proofs.Try.f11) (by kernel_rfl) res11 (by kernel_rfl) (by kernel_rfl) (Nat.le_refl _) rfl trivial trivial ?_
 unfold rc11
 refine WR.seq (WR.reg (WQ.runS [] 1000 _ _ _ _ rfl (WQ.nilS ?_)))
 refine WR.seq (WR.reg ?_)
 refine WQ.callH rfl rfl rfl rfl rfl new .base rfl (WQ.runS [] 1000 _ _ _ _ rfl (WQ.nilS ?_))
 refine WR.seq (WR.reg (WQ.runS [] 1 _ _ _ _ rfl ?_))
 refine WQ.callH rfl rfl rfl rfl rfl op .base rfl (WQ.runS [] 1000 _ _ _ _ rfl (WQ.nilS ?_))
 refine WR.seq (WR.seq (WR.reg (WQ.runS [] 1000 _ _ _ _ rfl (WQ.nilS (WR.condF rfl (WR.skip ?_))))))
 refine WR.seq (WR.reg (WQ.runS [] 1 _ _ _ _ rfl ?_))
 refine WQ.callH rfl rfl rfl rfl rfl p1 .base rfl (WQ.nilS ?_)
 refine WR.seq (WR.reg (WQ.runS [] 1 _ _ _ _ rfl ?_))
 refine WQ.callH rfl rfl rfl rfl rfl p2 .base rfl (WQ.nilS ?_)
 refine WR.seq (WR.reg (WQ.runS [] 1 _ _ _ _ rfl ?_))
 refine WQ.callH rfl rfl rfl rfl rfl p3 .base rfl (WQ.runS [] 1000 _ _ _ _ rfl (WQ.nilS ?_))
 refine WR.seq (WR.reg (WQ.runS [] 1 _ _ _ _ rfl ?_))
 refine WQ.callH rfl rfl rfl rfl rfl p4 .base rfl (WQ.runS [] 1000 _ _ _ _ rfl (WQ.nilS ?_))
 refine WR.seq (WR.reg (WQ.runS [] 1 _ _ _ _ rfl ?_))
 refine WQ.callH rfl rfl rfl rfl rfl q4 .base rfl ?_
 refine WQ.callH rfl rfl rfl rfl rfl (r4 _) .base rfl (WQ.runS [] 1000 _ _ _ _ rfl (WQ.nilS ?_))
 refine WR.seq (WR.reg (WQ.runS [] 1 _ _ _ _ rfl ?_))
 refine WQ.callH rfl rfl rfl rfl rfl p5 .base rfl (WQ.runS [] 1000 _ _ _ _ rfl (WQ.nilS ?_))
 refine WR.seq (WR.reg (WQ.runS [] 1 _ _ _ _ rfl ?_))
 refine WQ.callH rfl rfl rfl rfl rfl q5 .base rfl ?_
 refine WQ.callH rfl rfl rfl rfl rfl (r5 _) .base rfl (WQ.runS [] 1000 _ _ _ _ rfl (WQ.nilS ?_))
 refine WR.seq (WR.reg ?_)
 refine WQ.callH rfl rfl rfl rfl rfl (sc _) .base rfl (WQ.runS [] 1000 _ _ _ _ rfl (WQ.nilS ?_))
 refine WR.seq (WR.reg (WQ.runS [] 1000 _ _ _ _ rfl (WQ.nilS ?_)))
 exact WR.ret ⟨rfl, rfl, ⟨_, rfl, VLe.refl _⟩, fun b hb => OO_low at5 b hb⟩
theorem awake_spec (h : H) : SCall Go.Proofs.Try.prog [] 11 [] none h (.ret (.bool true)) none h := SCall.pure0 rfl awake_core trivial trivial h
end Go.VM
end
section
/- CachefileCuts: what a call answers, and whether the power is on behind it. -/
set_option maxRecDepth 100000
set_option linter.unusedVariables false
set_option linter.unusedSimpArgs false
namespace Go.VM
theorem write_up {d : Dk} {w : Wr} (h : (write d w).2 = 0) : (write d w).1.off = false := by
 unfold write at h ⊢
 by_cases h1 : d.off = true
 ·rw [if_pos h1] at h; cases h
 ·rw [if_neg h1] at h ⊢
  by_cases h2 : ¬ (w.area = 0 ∨ w.area = 1)
  ·rw [if_pos h2] at h; cases h
  ·rw [if_neg h2] at h ⊢
   by_cases h3 : d.fuse = 0
   ·rw [if_pos h3] at h; cases h
   ·rw [if_neg h3]
    rw [(done_fine _ w).1]
    split
    ·simpa using h1
    ·simpa using h1
def Ans (e : Int) : Prop := e = 0 ∨ e = 180
theorem write_ans {d : Dk} {w : Wr} (ha : w.area = 0 ∨ w.area = 1) : Ans (write d w).2 := by
 unfold write Ans
 by_cases h1 : d.off = true
 ·rw [if_pos h1]; exact .inr rfl
 ·rw [if_neg h1, if_neg (fun h => h ha)]
  by_cases h3 : d.fuse = 0
  ·rw [if_pos h3]; exact .inr rfl
  ·rw [if_neg h3]; exact .inl (done_fine _ w).2.2
theorem cstep_ans {d : Dk} {e : Int} {N : CSt} {x : EZ} (he : Ans e) (rt : N.root = 0 ∨ N.root = 1) : Ans (cstep (d, e, N) x).2.1 ∧ (cstep (d, e, N) x).2.2.root = N.root := by
 have key : ∀ (d1 : Dk) (e1 : Int) (N1 : CSt), Ans e1 → N1.root = N.root → Ans (if e1 = 0 then ((marksP d1 (putN N1 x) 2 N1.L.length).1, (marksP d1 (putN N1 x) 2 N1.L.length).2.2, (marksP d1 (putN N1 x) 2 N1.L.length).2.1) else (d1, e1, putN N1 x) : Dk × Int × CSt).2.1 ∧ (if e1 = 0 then ((marksP d1 (putN N1 x) 2 N1.L.length).1, (marksP d1 (putN N1 x) 2 N1.L.length).2.2, (marksP d1 (putN N1 x) 2 N1.L.length).2.1) else (d1, e1, putN N1 x) : Dk × Int × CSt).2.2.root = N.root := by
  intro d1 e1 N1 h1 h2
  split
  ·refine ⟨write_ans (w := ⟨1, (putN N1 x).root, _⟩) (by show N1.root = 0 ∨ N1.root = 1; rw [h2]; exact rt), ?_⟩
   show (marksP d1 (putN N1 x) 2 N1.L.length).2.1.root = _
   unfold marksP addP
   dsimp only
   split
   ·exact h2
   ·exact h2
  ·exact ⟨h1, h2⟩
 by_cases he0 : e = 0
 ·subst he0
  have h2 : (addP d N (entryB x.k x.v)).2.1.root = N.root := by
   unfold addP
   dsimp only
   split <;> rfl
  have := key (addP d N (entryB x.k x.v)).1 (addP d N (entryB x.k x.v)).2.2 _ (write_ans (w := ⟨1, N.root, _⟩) rt) h2
  simpa only [cstep, if_true] using this
 ·have := key d e N he rfl
  simpa only [cstep, if_neg he0] using this
theorem fold_ans : ∀ (xs : List EZ) {d : Dk} {e : Int} {N : CSt}, Ans e → (N.root = 0 ∨ N.root = 1) → Ans (xs.foldl cstep (d, e, N)).2.1
 | [], _, _, _, h, _ => h
 | x :: xs, d, e, N, h, rt => by
  rw [List.foldl_cons]
  obtain ⟨h1, h2⟩ := cstep_ans (d := d) (N := N) (x := x) h rt
  generalize cstep (d, e, N) x = A at *
  obtain ⟨d1, e1, N1⟩ := A
  dsimp only at h1 h2
  exact fold_ans xs h1 (by rw [h2]; exact rt)
theorem comp_ans {d : Dk} {C : CSt} (rt : C.root = 0 ∨ C.root = 1) : Ans (compP d C).2.2 ∧ ((compP d C).2.2 = 0 → (compP d C).1.off = false) := by
 have hr1 : 1 - C.root = 0 ∨ 1 - C.root = 1 := by omega
 have h1 : Ans (laidP d C).2.1 := fold_ans _ (write_ans hr1) hr1
 unfold compP
 by_cases hz : (laidP d C).2.1 = 0
 ·rw [if_pos hz]
  exact ⟨write_ans hr1, fun h => write_up h⟩
 ·rw [if_neg hz]
  exact ⟨h1, fun h => absurd h hz⟩
theorem tidy_ans {d : Dk} {C : CSt} (rt : C.root = 0 ∨ C.root = 1) (up : d.off = false) : Ans (tidyP d C).2.2 ∧ ((tidyP d C).2.2 = 0 → (tidyP d C).1.off = false) := by
 unfold tidyP
 split
 ·exact comp_ans rt
 ·exact ⟨.inl rfl, fun _ => up⟩
theorem touch_ans {d : Dk} {C : CSt} (rt : C.root = 0 ∨ C.root = 1) (kind i : Nat) : Ans (touchP d C kind i).2.2 ∧ ((touchP d C kind i).2.2 = 0 → (touchP d C kind i).1.off = false) := by
 have e1 : (marksP d C kind i).2.2 = (write d ⟨1, C.root, markB kind i⟩).2 := rfl
 have e2 : (marksP d C kind i).1 = (write d ⟨1, C.root, markB kind i⟩).1 := rfl
 unfold touchP
 by_cases hz : (marksP d C kind i).2.2 = 0
 ·rw [if_pos hz]
  refine tidy_ans ((marksP_stp d C kind i).rt rt) ?_
  rw [e2]; rw [e1] at hz; exact write_up hz
 ·rw [if_neg hz]
  exact ⟨by rw [e1]; exact write_ans rt, fun h => absurd h hz⟩
theorem asks_ans {d : Dk} {C : CSt} (g : GoodC C) (rt : C.root = 0 ∨ C.root = 1) (up : d.off = false) (k : List Nat) : Ans (asksP d C k).2.2 ∧ ((asksP d C k).2.2 = 0 → (asksP d C k).1.off = false) := by
 unfold asksP keptC'
 cases hf : findK C.L k (keptF C.L C.most C.bytes) with
 | some i =>
  obtain ⟨h1, e, he, hke⟩ := findK_some hf
  obtain ⟨e', he', hlv⟩ := mem_order.1 (kept_order h1)
  have : e' = e := Option.some.inj (he'.symm.trans he)
  subst this
  have hv := g.told e' (List.mem_of_getElem? he) hlv
  have hval : valAt C.L i = k ++ k := by unfold valAt; rw [he]; show e'.v = _; rw [hv, hke]
  obtain ⟨t1, t2⟩ := touch_ans (d := d) rt 3 i
  dsimp only
  rw [if_pos hval]
  by_cases hz : (touchP d C 3 i).2.2 = 0
  ·rw [if_pos hz]; exact ⟨.inl rfl, fun _ => t2 hz⟩
  ·rw [if_neg hz]; exact ⟨t1, fun h => absurd h hz⟩
 | none =>
  dsimp only
  unfold putP
  have hr := (addP_stp d C (entryB k (k ++ k))).rt rt
  have ha : Ans (addP d C (entryB k (k ++ k))).2.2 := write_ans (w := ⟨1, C.root, _⟩) rt
  generalize addP d C (entryB k (k ++ k)) = A at hr ha ⊢
  by_cases hfc : fitsC C k (k ++ k)
  ·rw [if_pos hfc]
   by_cases hz : A.2.2 = 0
   ·rw [if_pos hz]
    exact touch_ans (show (storeC A.2.1 k (k ++ k)).root = 0 ∨ (storeC A.2.1 k (k ++ k)).root = 1 from hr) 2 _
   ·rw [if_neg hz]
    exact ⟨ha, fun h => absurd h hz⟩
  ·rw [if_neg hfc]
   exact ⟨.inl rfl, fun _ => up⟩
end Go.VM
end
section
/- CachefileCuts: calls over a law's own memory. -/
set_option maxRecDepth 100000
set_option linter.unusedVariables false
set_option linter.unusedSimpArgs false
namespace Go.VM
open Go.RowKit
theorem OO_hd {d d' : Dk} {C : CSt} {nx c r : Nat} {lc : LM} (a : At nx c r) : hd ⟨nx, og (OO d C c r), lc⟩ 1000 1001 d' = ⟨nx, og (OO d' C c r), lc⟩ := by
 obtain ⟨h1, h2, h3, h4, h5⟩ := a
 unfold hd
 rw [og_put, og_put]; rfl
theorem OO_HD {d : Dk} {C : CSt} {nx c r : Nat} {lc : LM} : HD ⟨nx, og (OO d C c r), lc⟩ 1000 1001 d := ⟨by decide, by decide, by decide, rfl, rfl⟩
theorem dol_HD {d : Dk} {nx : Nat} {lc : LM} : HD ⟨nx, og (dol d), lc⟩ 1000 1001 d := ⟨by decide, by decide, by decide, rfl, rfl⟩
theorem dol_hd {d d' : Dk} {nx : Nat} {lc : LM} : hd ⟨nx, og (dol d), lc⟩ 1000 1001 d' = ⟨nx, og (dol d'), lc⟩ := by
 unfold hd
 rw [og_put, og_put]; rfl
theorem fuse_at {d : Dk} {C : CSt} {nx c r : Nat} {lc : LM} (a : At nx c r) (n : Int) : SCall Go.Proofs.Try.prog [] 26 [.ptr 1000 0, .int .i64 n] none ⟨nx, og (OO d C c r), lc⟩ (.ret (.int .i64 (fuseF d n).2)) none ⟨nx, og (OO (fuseF d n).1 C c r), lc⟩ := by
 have := disk_lift (fuse_core d n) (by exact ⟨trivial, trivial⟩) trivial (OO_HD (d := d) (C := C) (nx := nx) (c := c) (r := r) (lc := lc))
 rwa [OO_hd a] at this
theorem power_at {d : Dk} {C : CSt} {nx c r : Nat} {lc : LM} (a : At nx c r) : SCall Go.Proofs.Try.prog [] 27 [.ptr 1000 0] none ⟨nx, og (OO d C c r), lc⟩ (.ret (.int .i64 0)) none ⟨nx, og (OO (powerF d) C c r), lc⟩ := by
 have := disk_lift (power_core d) trivial trivial (OO_HD (d := d) (C := C) (nx := nx) (c := c) (r := r) (lc := lc))
 rwa [OO_hd a] at this
theorem fuse_dol {d : Dk} {nx : Nat} {lc : LM} (n : Int) : SCall Go.Proofs.Try.prog [] 26 [.ptr 1000 0, .int .i64 n] none ⟨nx, og (dol d), lc⟩ (.ret (.int .i64 (fuseF d n).2)) none ⟨nx, og (dol (fuseF d n).1), lc⟩ := by
 have := disk_lift (fuse_core d n) (by exact ⟨trivial, trivial⟩) trivial (dol_HD (d := d) (nx := nx) (lc := lc))
 rwa [dol_hd] at this
theorem power_dol {d : Dk} {nx : Nat} {lc : LM} : SCall Go.Proofs.Try.prog [] 27 [.ptr 1000 0] none ⟨nx, og (dol d), lc⟩ (.ret (.int .i64 0)) none ⟨nx, og (dol (powerF d)), lc⟩ := by
 have := disk_lift (power_core d) trivial trivial (dol_HD (d := d) (nx := nx) (lc := lc))
 rwa [dol_hd] at this
def compRow (nx r : Nat) (d : Dk) (C : CSt) : Nat := if compR d C = 1003 then r else nx + (compR d C - 1004)
theorem comp_at {nx c r : Nat} {d : Dk} {C : CSt} {lc : LM} (a : At nx c r) {x n z : Nat} (bud : Bud d C x n z) :
  SCall Go.Proofs.Try.prog [] 24 [.ptr c 0] none ⟨nx, og (OO d C c r), lc⟩ (.ret (.int .i64 (compP d C).2.2)) none ⟨nx + compN C, og (OO (compP d C).1 (compP d C).2.1 c (compRow nx r d C)), lc⟩ ∧ At (nx + compN C) c (compRow nx r d C) := by
 have hR : 1003 ≤ compR d C ∧ compR d C < 1004 + compN C := by
  unfold compR
  split <;> omega
 have := cache_liftR (comp_core bud.comp) hR.1 hR.2 trivial trivial (a.hc (d := d) (C := C) (lc := lc)) (by show 1000 < nx; have := a.c0; have := a.cn; omega) (by show 1001 < nx; have := a.c0; have := a.cn; omega) a.cn a.rn
 have e : rowAtR ⟨nx, og (OO d C c r), lc⟩ r (compR d C) = compRow nx r d C := rfl
 have hq : compRow nx r d C = r ∨ (nx ≤ compRow nx r d C ∧ compRow nx r d C < nx + compN C) := by
  unfold compRow
  split
  ·exact .inl rfl
  ·right; omega
 rw [e, hcq_At a hq] at this
 obtain ⟨h1, h2, h3, h4, h5⟩ := a
 exact ⟨this, by omega, by omega, by omega, by omega, by omega⟩
theorem open_drop {nx : Nat} {d : Dk} {C : CSt} {lc : LM} (hx : 1002 ≤ nx) (h : Rel d C) (f : d.off = false) {x n z : Nat} (bud : Bud d C x n z) (hm : 0 ≤ C.most) (hb : 0 ≤ C.bytes) :
  SCall Go.Proofs.Try.prog [] 18 [.ptr 1000 0, .int .i64 C.most, .int .i64 C.bytes] none ⟨nx, og (dol d), lc⟩ (.ret (.tup [.ptr (nx + opQ C + 1) 0, .int .i64 0])) none ⟨nx + (opQ C + 2), og (dol d), lc⟩ := by
 obtain ⟨sc, a⟩ := open_at (lc := lc) hx h f bud hm hb
 refine sc.drop rfl rfl (fun b o ho => ?_) (fun b hb => ?_)
 ·show og (OO d C _ _) b = some o
  rw [OO_get]
  have ho : og (dol d) b = some o := ho
  simp only [dol, og_cons] at ho
  by_cases k0 : b = 1000
  ·rw [if_pos k0] at ho ⊢; exact ho
  ·rw [if_neg k0] at ho ⊢
   by_cases k1 : b = 1001
   ·rw [if_pos k1] at ho ⊢; exact ho
   ·rw [if_neg k1] at ho; cases ho
 ·have hb : b < nx := hb
  show og (dol d) b = og (OO d C _ _) b
  rw [OO_get]
  simp only [dol, og_cons]
  by_cases k0 : b = 1000
  ·rw [if_pos k0, if_pos k0]
  by_cases k1 : b = 1001
  ·rw [if_neg k0, if_pos k1, if_neg k0, if_pos k1]
  rw [if_neg k0, if_neg k1, if_neg k0, if_neg k1, if_neg (by omega), if_neg (by omega)]; rfl
end Go.VM
end
section
/- CachefileCuts: fuses and power in plain words; a call that is cut. -/
set_option maxRecDepth 100000
set_option linter.unusedVariables false
set_option linter.unusedSimpArgs false
namespace Go.VM
theorem fuse_same (d : Dk) (n : Int) : Same d (fuseF d n).1 := by
 unfold fuseF
 split <;> exact ⟨rfl, rfl, rfl⟩
theorem power_same (d : Dk) : Same d (powerF d) := ⟨rfl, rfl, rfl⟩
theorem power_fine (d : Dk) : Fine (powerF d) := ⟨rfl, by show (-1 : Int) < 0; decide⟩
theorem fuse_off {d : Dk} (h : d.off = false) (n : Int) : (fuseF d n).1.off = false ∧ (fuseF d n).2 = 0 := by
 unfold fuseF
 rw [h]
 exact ⟨rfl, rfl⟩
theorem fuse_fine {d : Dk} (h : d.off = false) : Fine (fuseF d (-1)).1 := by
 unfold fuseF
 rw [h]
 exact ⟨rfl, by show (if (-1 : Int) > -1 then (-1 : Int) else -1) < 0; decide⟩
theorem bud_fuse {d : Dk} {C : CSt} {x n z : Nat} (b : Bud d C x n z) {m : Int} (hm : m < 9223372036854775808) : Bud (fuseF d m).1 C x n z := by
 obtain ⟨b1, b2, b3, b4, b5, b6, b7, b8, b9, b10, b11, b12⟩ := b
 unfold fuseF
 split
 ·exact ⟨b1, b2, b3, b4, b5, b6, b7, b8, b9, b10, b11, b12⟩
 ·refine ⟨b1, b2, b3, ?_, b5, b6, b7, b8, b9, b10, b11, b12⟩
  show (if -1 > m then (-1 : Int) else m) < _
  split <;> omega
theorem bud_power {d : Dk} {C : CSt} {x n z : Nat} (b : Bud d C x n z) : Bud (powerF d) C x n z := by
 obtain ⟨b1, b2, b3, b4, b5, b6, b7, b8, b9, b10, b11, b12⟩ := b
 exact ⟨b1, b2, b3, by show (-1 : Int) < _; decide, b5, b6, b7, b8, b9, b10, b11, b12⟩
theorem comp_bud {d : Dk} {C : CSt} {x n z : Nat} (bud : Bud d C (x + 3400000) n (z + 7000)) : Bud (compP d C).1 (compP d C).2.1 x n z ∧ (compP d C).2.1.most = C.most ∧ (compP d C).2.1.bytes = C.bytes := by
 have hL := bud.L
 have s := compP_stp d C bud.sz bud.la0
 have b := bud.stp s (by omega) (by omega) (by omega)
 exact ⟨b.mono (by omega) (by omega) (by omega), s.most, s.bytes⟩
theorem holdsG_keys : ∀ {R : List EZ} {ms : List (List Nat)}, holdsG R ms = true → R.map EZ.k = ms
 | [], [], _ => rfl
 | [], _ :: _, h => by cases h
 | _ :: _, [], h => by cases h
 | e :: R, x :: ms, h => by
  simp only [holdsG, holdE, Bool.and_eq_true, decide_eq_true_eq] at h
  rw [List.map_cons, h.1.1.1, holdsG_keys h.2]
theorem runP_keys {C : CSt} (g : GoodC C) : (runP C.L C.most C.bytes).map EZ.k = keysC C := holdsG_keys (holds_keys g)
theorem holds_iff {C : CSt} (g : GoodC C) (ms : List (List Nat)) : holdsG (runP C.L C.most C.bytes) ms = decide (keysC C = ms) := by
 by_cases h : keysC C = ms
 ·rw [decide_eq_true h, ← h]; exact holds_keys g
 ·rw [decide_eq_false h]
  cases hq : holdsG (runP C.L C.most C.bytes) ms with
  | false => rfl
  | true => exact absurd ((runP_keys g).symm.trans (holdsG_keys hq)) h
theorem asks_cut {d : Dk} {C : CSt} (rel : Rel d C) (g : GoodC C) (f : Fine d) {x n z : Nat} (k : List Nat) (hk : k.length ≤ 333) (k8 : ∀ c ∈ k, c < 256) (bud : Bud d C (x + 3400000) (n + 1) (z + 7000)) (hm0 : 0 ≤ C.most) {m : Int} (hm : m < 9223372036854775808) :
  let A := asksP (fuseF d m).1 C k
  Rel A.1 A.2.1 ∧ GoodC A.2.1 ∧ Bud A.1 A.2.1 x n z ∧ A.2.1.most = C.most ∧ A.2.1.bytes = C.bytes ∧ Ans A.2.2 ∧ (A.2.2 = 0 → A.1.off = false ∧ keysC A.2.1 = askF C.most C.bytes (keysC C) k) ∧ (keysC A.2.1 = keysC C ∨ keysC A.2.1 = askF C.most C.bytes (keysC C) k) := by
 intro A
 have r1 := rel.same (fuse_same d m)
 have b1 := bud_fuse bud hm
 obtain ⟨s1, s2, s3⟩ := asks_stp k hk b1
 obtain ⟨t1, t2, t3, t4, t5⟩ := asks_keys (x := 0) (n := 0) (z := 0) r1 g k hk k8 (b1.mono (by omega) (by omega) (by omega)) hm0
 obtain ⟨u1, u2⟩ := asks_ans g rel.rt (fuse_off f.1 m).1 k
 exact ⟨t1, t2, s1, s2, s3, u1, fun h => ⟨u2 h, t4 h⟩, t5⟩
end Go.VM
end
section
/- CachefileCuts: the end of a round with a cut. -/
set_option maxRecDepth 100000
set_option linter.unusedVariables false
set_option linter.unusedSimpArgs false
namespace Go.VM
open Go.RowKit
def icell (n : Int) : List V := [.int .i64 n]
def cuTm (l : List (List Nat)) (fs : List Int) (most bytes : Int) (c i : Nat) : TM := [(0, .v (.int .i64 most)), (1, .v (.int .i64 bytes)), (2, .v (.lst (l.map kst) .unk)), (3, .v (.lst (fs.map icell) .unk)), (9, .v (.bool true)), (10, .v (.ptr 1000 0)), (11, .v (.ptr c 0)), (12, .v (.int .i64 0)), (13, .l 13 0), (14, .v (.int .i64 i))]
theorem cuts_J1 {QN : S → Prop} {QX : X → S → Prop} {l : List (List Nat)} {fs : List Int} {most bytes : Int} {i g : Nat} {d : Dk} {C : CSt} {ms : List (List Nat)} {nx c r m : Nat} (hm : 0 ≤ most) (hb : 0 ≤ bytes) (hg : (g : Int) < 9223372036854775808) (v : LInv most bytes d C ms nx c r (m + 1))
  (hx : ∀ tm d' C' nx' c' r', LInv most bytes d' C' ms nx' c' r' m → TellT tm (laLc ms most bytes) (cuTm l fs most bytes c' i) → QN (SL.toS ⟨tm, [], none, nx', OO d' C' c' r', laLc ms most bytes⟩)) :
  WR Go.Proofs.Try.prog [] ⟨Go.Proofs.Try.f9.ntmps, none, 9⟩ rc9_J1 (SL.toS ⟨(15, .v (.int .i64 g)) :: cuTm l fs most bytes c i, [], none, nx, OO d C c r, laLc ms most bytes⟩) QN QX := by
 obtain ⟨rel, good, fine, hmo, hby, keys, at_, bud⟩ := v
 obtain ⟨sm1, sm2⟩ := keysC_small good bud
 rw [keys] at sm1 sm2
 have hold := holds_at (d := d) (C := C) (lc := laLc ms most bytes) at_ bud.comp.cf ms most bytes sm1 sm2
 rw [holds_iff good, keys, decide_eq_true rfl] at hold
 unfold rc9_J1
 refine WR.seq (WR.reg (WQ.runS [] 2 _ _ _ _ rfl ?_))
 refine WQ.callH rfl rfl rfl rfl rfl hold .base rfl (WQ.runS [] 1000 _ _ _ _ rfl (WQ.nilS ?_))
 refine WR.seq (WR.seq (WR.reg (WQ.runS [] 1000 _ _ _ _ rfl (WQ.nilS (WR.condF rfl (WR.skip ?_))))))
 have hg7 : ((g % 7 : Nat) : Int) < 9223372036854775808 := by omega
 have fz := fuse_at (d := d) (C := C) (lc := laLc ms most bytes) at_ ((g % 7 : Nat) : Int)
 have r1 := rel.same (fuse_same d ((g % 7 : Nat) : Int))
 have b1 := bud_fuse bud hg7
 generalize (fuseF d ((g % 7 : Nat) : Int)) = F at fz r1 b1
 obtain ⟨d1, fe⟩ := F
 dsimp only at fz r1 b1
 refine WR.seq (WR.reg (WQ.runS [] 2 _ _ _ _ rfl ?_))
 refine WQ.lightS rfl rfl rfl (rem_nat2 (a := g) (m := 6) rfl rfl) rfl ?_
 refine WQ.callH rfl rfl rfl rfl rfl fz .base rfl (WQ.nilS ?_)
 obtain ⟨cp, at2⟩ := comp_at (lc := laLc ms most bytes) at_ b1
 obtain ⟨k1, k2, k3, k4⟩ := comp_keys r1 good b1
 obtain ⟨b2, b3, b4⟩ := comp_bud (x := 3400000 * m) (n := m) (z := 7000 * m) (b1.mono (by omega) (by omega) (by omega))
 generalize compP d1 C = T at *
 obtain ⟨d2, C2, e2⟩ := T
 dsimp only at cp k1 k2 k3 k4 b2 b3 b4
 generalize compRow nx r d1 C = r2 at *
 generalize nx + compN C = nx2 at *
 refine WR.seq (WR.reg (WQ.runS [] 1 _ _ _ _ rfl ?_))
 refine WQ.callH rfl rfl rfl rfl rfl cp .base rfl (WQ.nilS ?_)
 have pw := power_at (d := d2) (C := C2) (lc := laLc ms most bytes) at2
 have r3 := k1.same (power_same d2)
 have b5 := bud_power b2
 have f3 := power_fine d2
 generalize powerF d2 = d3 at *
 refine WR.seq (WR.reg (WQ.runS [] 1 _ _ _ _ rfl ?_))
 refine WQ.callH rfl rfl rfl rfl rfl pw .base rfl (WQ.nilS ?_)
 refine WR.weak (kill_OO (t := 11) at2 rfl) ?_
 obtain ⟨op, at3⟩ := open_at (nx := nx2) (lc := laLc ms most bytes) (by have := at2.c0; have := at2.cn; omega) r3 f3.1 b5 (by rw [b3, hmo]; exact hm) (by rw [b4, hby]; exact hb)
 rw [b3, b4, hmo, hby] at op
 refine WR.seq (WR.reg (WQ.runS [] 3 _ _ _ _ rfl ?_))
 refine WQ.callH rfl rfl rfl rfl rfl op .base rfl (WQ.runS [] 1000 _ _ _ _ rfl (WQ.nilS ?_))
 refine WR.seq (WR.seq (WR.reg (WQ.runS [] 1000 _ _ _ _ rfl (WQ.nilS (WR.condF rfl (WR.skip ?_))))))
 refine WR.seq (WR.reg (WQ.runS [] 1000 _ _ _ _ rfl (WQ.nilS ?_)))
 have hold2 := holds_at (d := d3) (C := C2) (lc := laLc ms most bytes) at3 b5.comp.cf ms most bytes sm1 sm2
 rw [holds_iff k2, k4, keys, decide_eq_true rfl] at hold2
 refine WR.seq (WR.reg (WQ.runS [] 2 _ _ _ _ rfl ?_))
 refine WQ.callH rfl rfl rfl rfl rfl hold2 .base rfl (WQ.runS [] 1000 _ _ _ _ rfl (WQ.nilS ?_))
 refine WR.seq (WR.reg (WQ.runS [] 1000 _ _ _ _ rfl (WQ.nilS (WR.condF rfl (WR.skip ?_)))))
 refine hx _ d3 C2 _ _ _ ⟨r3, k2, f3, b3.trans hmo, b4.trans hby, k4.trans keys, at3, b5⟩ ?_
 repeat (first | exact .nil | refine .cons rfl (.v (VLe.refl _)) ?_ | refine .cons rfl (.l _ _ rfl) ?_)
end Go.VM
end
section
/- CachefileCuts: a round with a cut, from where it is opened anew. -/
set_option maxRecDepth 100000
set_option linter.unusedVariables false
set_option linter.unusedSimpArgs false
namespace Go.VM
open Go.RowKit
def laLc2 (ms ms2 : List (List Nat)) (most bytes : Int) : LM := [(17, [.lst (ms2.map kst) .unk, .int .i64 most, .int .i64 bytes]), (13, [.lst (ms.map kst) .unk, .int .i64 most, .int .i64 bytes])]
theorem cuts_J2 {QN : S → Prop} {QX : X → S → Prop} {l : List (List Nat)} {fs : List Int} {most bytes : Int} {i g : Nat} {d : Dk} {C : CSt} {ms ms2 : List (List Nat)} {nx c m : Nat} (hnx : 1002 ≤ nx) (hm : 0 ≤ most) (hb : 0 ≤ bytes) (hg : (g : Int) < 9223372036854775808)
  (rel : Rel d C) (good : GoodC C) (fine : Fine d) (hmo : C.most = most) (hby : C.bytes = bytes) (keys : keysC C = ms ∨ keysC C = ms2) (bud : Bud d C (3400000 * (m + 1)) (m + 1) (7000 * (m + 1))) (sm1 : ms.length ≤ 1000000) (sm2 : ∀ x ∈ ms, x.length ≤ 1000000)
  (hx : ∀ ms' tm d' C' nx' c' r', LInv most bytes d' C' ms' nx' c' r' m → TellT tm (laLc ms' most bytes) (cuTm l fs most bytes c' i) → QN (SL.toS ⟨tm, [], none, nx', OO d' C' c' r', laLc ms' most bytes⟩)) :
  WR Go.Proofs.Try.prog [] ⟨Go.Proofs.Try.f9.ntmps, none, 9⟩ rc9_J2 (SL.toS ⟨(15, .v (.int .i64 g)) :: (17, .l 17 0) :: cuTm l fs most bytes c i, [], none, nx, dol d, laLc2 ms ms2 most bytes⟩) QN QX := by
 obtain ⟨op, at3⟩ := open_at (nx := nx) (lc := laLc2 ms ms2 most bytes) hnx rel fine.1 bud (by rw [hmo]; exact hm) (by rw [hby]; exact hb)
 rw [hmo, hby] at op
 unfold rc9_J2
 refine WR.seq (WR.reg (WQ.runS [] 3 _ _ _ _ rfl ?_))
 refine WQ.callH rfl rfl rfl rfl rfl op .base rfl (WQ.runS [] 1000 _ _ _ _ rfl (WQ.nilS ?_))
 refine WR.seq (WR.seq (WR.reg (WQ.runS [] 1000 _ _ _ _ rfl (WQ.nilS (WR.condF rfl (WR.skip ?_))))))
 refine WR.seq (WR.reg (WQ.runS [] 1000 _ _ _ _ rfl (WQ.nilS ?_)))
 have hold2 := holds_at (d := d) (C := C) (lc := laLc2 ms ms2 most bytes) at3 bud.comp.cf ms most bytes sm1 sm2
 rw [holds_iff good] at hold2
 refine WR.seq (WR.reg (WQ.runS [] 2 _ _ _ _ rfl ?_))
 refine WQ.callH rfl rfl rfl rfl rfl hold2 .base rfl (WQ.runS [] 1000 _ _ _ _ rfl (WQ.nilS ?_))
 refine WR.seq (WR.seq (WR.reg (WQ.runS [] 1000 _ _ _ _ rfl (WQ.nilS ?_))))
 by_cases hk : keysC C = ms
 ·rw [decide_eq_true hk]
  refine WR.condF rfl (WR.skip ?_)
  refine WR.weak (s := SL.toS ⟨(15, .v (.int .i64 g)) :: cuTm l fs most bytes (nx + opQ C + 1) i, [], none, nx + (opQ C + 2), OO d C (nx + opQ C + 1) (nx + opQ C), laLc ms most bytes⟩) ?_ (cuts_J1 hm hb hg ⟨rel, good, fine, hmo, hby, hk, at3, bud⟩ (hx ms))
  refine SW.tellR ?_ ?_
  ·repeat (first | exact .nil | refine .cons rfl (.v (VLe.refl _)) ?_ | refine .cons rfl (.l _ _ rfl) ?_ | refine .cons rfl (.v (VLe.unk _ _)) ?_)
  ·repeat (first | exact .nil | refine .cons rfl (.inl rfl) ?_)
 ·have hk2 : keysC C = ms2 := by rcases keys with q | q; exact absurd q hk; exact q
  rw [decide_eq_false hk]
  refine WR.condT rfl ?_
  refine WR.reg (WQ.runS [] 1000 _ _ _ _ rfl (WQ.nilS ?_))
  refine WR.weak (s := SL.toS ⟨(15, .v (.int .i64 g)) :: cuTm l fs most bytes (nx + opQ C + 1) i, [], none, nx + (opQ C + 2), OO d C (nx + opQ C + 1) (nx + opQ C), laLc ms2 most bytes⟩) ?_ (cuts_J1 hm hb hg ⟨rel, good, fine, hmo, hby, hk2, at3, bud⟩ (hx ms2))
  refine SW.tellR ?_ ?_
  ·repeat (first | exact .nil | refine .cons rfl (.v (VLe.refl _)) ?_ | refine .cons rfl (.l _ _ rfl) ?_ | refine .cons rfl (.v (VLe.unk _ _)) ?_)
  ·repeat (first | exact .nil | refine .cons rfl (.inl rfl) ?_)
end Go.VM
end
section
/- An object that only slots know becomes a variable of the frame. -/
set_option maxRecDepth 100000
set_option linter.unusedVariables false
set_option linter.unusedSimpArgs false
namespace Go.VM
theorem SW.toLoc {gl : List Nat} {fr : Fr} {s : S} {t N : Nat} {cs : List V} (ht : tg s.tm t = some (.v (.ptr N 0))) (hg : glim ≤ N) (ho : s.h.ob N = some (.cells false cs)) (hl : lg s.h.lc t = none) :
  SW gl fr s { s with tm := (t, .l t 0) :: s.tm, h := { s.h.kill N with lc := (t, cs) :: s.h.lc } } := by
 refine ⟨rfl, fun E F w0 w b tmps df cs' st => ?_⟩
 obtain ⟨v', g1, g2⟩ := st.tr.2 t _ ht
 obtain ⟨p, hp, rfl⟩ : ∃ p, E.ob N = some p ∧ v' = .pointer (some ⟨p.blk, p.off + 0, none⟩) := by
  cases g2 with
  | v _ _ r => cases r with
   | ptr _ _ p h => exact ⟨p, h, rfl⟩
 have x := kill_ext st.mr (.inl ⟨p, hp⟩)
 have m := st.mr.killed N
 obtain ⟨o1, o2⟩ := st.mr.oOb N _ p hg ho hp
 have o3 : CellsR E cs p w := st.mr.obj N _ p ho hp
 have hnl : ∀ d q, F.loc d = some q → d ≠ t := by
  rintro d q hd rfl
  obtain ⟨_, _, cs2, h3, _⟩ := st.mr.loc d q hd
  rw [hl] at h3; cases h3
 have hown : ∀ B, B ≠ p.blk → (if B = p.blk then Own.lc t else F.own B) = F.own B := fun B h => if_neg h
 refine ⟨E, { F with loc := fun d => if d = t then some p else F.loc d, own := fun B => if B = p.blk then .lc t else F.own B }, ⟨x.le, x.old, x.nxt, x.ghost⟩, rfl, ⟨?_, ⟨st.tr.1, fun d v hv => ?_⟩, st.dr, st.uk, st.fr, st.gl⟩⟩
 ·refine ⟨m.below, m.fresh, m.glo, m.glb, m.gbl, fun B hB => ?_, m.obj, fun c o q hc h1 h2 => ?_, m.fz, fun B i v h1 h2 => ?_, fun c n q h1 h2 => ?_, m.tokn, m.toko, fun d q hd => ?_, fun B y hy => ?_⟩
  ·by_cases hb : B = p.blk
   ·subst hb; exact o3.choose_spec.choose_spec.choose_spec.choose_spec.1 |> fun h => (Array.getElem?_eq_some_iff.1 h).1
   ·exact m.lto B (by rw [← hown B hb]; exact hB)
  ·obtain ⟨h3, h4⟩ := m.oOb c o q hc h1 h2
   refine ⟨?_, h4⟩
   have hne : q.blk ≠ p.blk := by
    intro e
    rw [e, o1] at h3
    cases h3
    simp [H.kill] at h1
   exact (hown _ hne).trans h3
  ·have h3 := m.oFz B i v h1 h2
   have hne : B ≠ p.blk := by
    rintro rfl
    rw [o1] at h3
    rcases h3 with h3 | ⟨_, h3⟩ | ⟨_, h3, _⟩ <;> cases h3
   show (if B = p.blk then Own.lc t else F.own B) = .fz ∨ (∃ b, (if B = p.blk then Own.lc t else F.own B) = .tk b) ∨ ∃ k, (if B = p.blk then Own.lc t else F.own B) = .pr (some k) ∧ i < k
   rw [if_neg hne]; exact h3
  ·obtain ⟨h3, h4⟩ := m.tok c n q h1 h2
   have hne : q.blk ≠ p.blk := by
    intro e
    rw [e, o1] at h3
    cases h3
   exact ⟨(hown _ hne).trans h3, h4⟩
  ·have hd : (if d = t then some p else F.loc d) = some q := hd
   show (if q.blk = p.blk then Own.lc t else F.own q.blk) = .lc d ∧ _ ∧ ∃ cs1, lg ((t, cs) :: s.h.lc) d = some cs1 ∧ CellsR E cs1 q w
   by_cases h : d = t
   ·rw [if_pos h] at hd
    cases hd
    rw [if_pos rfl, h]
    exact ⟨rfl, o2, cs, by rw [lg_cons, if_pos rfl], o3⟩
   ·rw [if_neg h] at hd
    obtain ⟨a1, a2, cs1, a3, a4⟩ := m.loc d q hd
    have hne : q.blk ≠ p.blk := by
     intro e
     rw [e, o1] at a1
     cases a1
    rw [if_neg hne]
    exact ⟨a1, a2, cs1, by rw [lg_cons, if_neg h]; exact a3, a4⟩
  ·obtain ⟨h3, h4⟩ := m.prot B y hy
   have hne : B ≠ p.blk := by
    rintro rfl
    rw [o1] at h4
    cases h4
   exact ⟨h3, (hown _ hne).trans h4⟩
 ·have hle : Lle F.loc (fun d => if d = t then some p else F.loc d) := by
   intro d q hd
   show (if d = t then some p else F.loc d) = some q
   rw [if_neg (hnl d q hd)]; exact hd
  rcases tg_cons_some hv with ⟨h1, h2⟩ | ⟨_, h2⟩
  ·subst h1; subst h2
   exact ⟨_, g1, .l _ _ _ (if_pos rfl)⟩
  ·obtain ⟨u, g3, g4⟩ := st.tr.2 d v h2
   exact ⟨u, g3, g4.mono (Env.le_refl E) hle⟩
end Go.VM
end
