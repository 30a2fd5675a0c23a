/- laid for this seat: VcCuts6 VcCuts7 -/
import Derived.Test.YtonlemmcdecibaaVg18
section
/- CachefileCuts: a round, from the fuse. -/
set_option maxRecDepth 100000
set_option linter.unusedVariables false
set_option linter.unusedSimpArgs false
namespace Go.VM
open Go.RowKit
theorem quo_nat2 {nt : Nat} {tm : TM} {h : H} {x y : RX} {k : IntKind} {a m : Nat} (hx : rv [] tm x = some (.int k a)) (hy : rv [] tm y = some (.int k ((m + 1 : Nat) : Int))) :
  LightR Go.Proofs.Try.prog [] nt tm h (some (.bin .quo x y)) (.v (.int k (k.wrap ((a / (m + 1) : Nat) : Int)))) := by
 refine lightX_sound ?_
 simp only [lightX, rl, hx, hy]
 have : ¬ (((m + 1 : Nat) : Int) = 0) := by omega
 simp only [abin, if_true, if_neg this]
 rfl
section
variable {P : Program} {gl : List Nat} {fr : Fr} {QN : S → Prop} {QX : X → S → Prop} {ds : List Nat} {anc : Nat} {hs : List (RI × List RI)} {l : List RI} {r : RI} {tm tm1 tm2 : TM} {df : List AD} {u : Option AMode} {nx : Nat} {ol : OL} {lc lc2 : LM} {es : List ER}
theorem DW.objC {z : List V} (hr : r.ro = some (.al z)) (hz : z.all V.isCell = true) (hw : wantR r.gd (tsub tm r.rd) = some true) (hp : putT fr.nt tm r.dst (.v (.ptr nx 0)) = some tm1)
  (h : DW P gl fr ds l anc hs (SL.toS ⟨tm1, df, u, nx + 1, (nx, .cells false z) :: ol, lc⟩) es QN QX) : DW P gl fr ds (r :: l) anc hs (SL.toS ⟨tm, df, u, nx, ol, lc⟩) es QN QX := by
 refine DW.obj (s := SL.toS ⟨tm, df, u, nx, ol, lc⟩) (ob := .cells false z) hw (by rw [hr]; exact rah_objR (by simp only [rah, hz]; rfl)) hp ?_
 have e : (SL.toS ⟨tm, df, u, nx, ol, lc⟩).h.new (.cells false z) = ⟨nx + 1, og ((nx, .cells false z) :: ol), lc⟩ := by
  simp only [H.new, SL.toS]
  congr 1
  funext k
  rw [og_cons]; rfl
 rw [e]; exact h
theorem st_head {N n : Nat} {a x : RX} {v : V} {z c : List V} (ha : rvt gl tm a = some (.v (.ptr N 0))) (hx : rv gl tm x = some v) (hv : cellO v = some c) (hn : c.length = n) (hg : glim ≤ N) (hp : putC z 0 c = some c) :
  rasC gl tm ((N, .cells false z) :: ol) lc (.st a x n) = some ((N, .cells false c) :: ol, lc) := by
 subst hn
 simp only [rasC, ha, hx, hv, Nat.beq_refl, og, Nat.ble_eq_true_of_le hg, hp, osetO]
end
theorem SW.toLocH {gl : List Nat} {fr : Fr} {tm : TM} {df : List AD} {u : Option AMode} {nx t N : Nat} {ol : OL} {lc : LM} {cs : List V} (ht : tg tm t = some (.v (.ptr N 0))) (hg : glim ≤ N) (hol : og ol N = none) (hl : lg lc t = none) :
  SW gl fr (SL.toS ⟨tm, df, u, nx, (N, .cells false cs) :: ol, lc⟩) (SL.toS ⟨(t, .l t 0) :: tm, df, u, nx, ol, (t, cs) :: lc⟩) := by
 have h := SW.toLoc (gl := gl) (fr := fr) (s := SL.toS ⟨tm, df, u, nx, (N, .cells false cs) :: ol, lc⟩) ht hg (by show og ((N, _) :: ol) N = _; rw [og_cons, if_pos rfl]) hl
 have e : ((SL.toS ⟨tm, df, u, nx, (N, .cells false cs) :: ol, lc⟩).h.kill N) = ⟨nx, og ol, lc⟩ := by
  simp only [H.kill, SL.toS]
  congr 1
  funext k
  show (if k = N then none else og ((N, _) :: ol) k) = _
  rw [og_cons]
  by_cases hk : k = N
  ·rw [if_pos hk, hk, hol]
  ·rw [if_neg hk, if_neg hk]
 rw [e] at h
 exact h
theorem At.more {nx c r : Nat} (a : At nx c r) (k : Nat) : At (nx + k) c r := by
 obtain ⟨h1, h2, h3, h4, h5⟩ := a
 exact ⟨h1, h2, h3, by omega, by omega⟩
def lcB (ms ms2 : List (List Nat)) (most bytes : Int) : LM := (17, [.lst (ms2.map kst) .unk, .int .i64 most, .int .i64 bytes]) :: laLc ms most bytes
theorem cuts_J3 {QN : S → Prop} {QX : X → S → Prop} {l : List (List Nat)} {fs : List Int} {most bytes : Int} {i : Nat} {n : Int} {k : List Nat} {d : Dk} {C : CSt} {ms : List (List Nat)} {nx c r m : Nat} (hm : 0 ≤ most) (hb : 0 ≤ bytes) (hb2 : bytes < 9223372036854775808) (hn : n < 9223372036854775808) (hk : l[i]? = some k) (hkl : k.length ≤ 200) (h8 : ∀ c ∈ k, c < 256) (v : LInv most bytes d C ms nx c r (m + 2))
  (hx : ∀ ms' tm d' C' nx' c' r', LInv most bytes d' C' ms' nx' c' r' m → TellT tm (laLc ms' most bytes) (cuTm l fs most bytes c' i) → QN (SL.toS ⟨tm, [], none, nx', OO d' C' c' r', laLc ms' most bytes⟩))
  (hx1 : ∀ ms' lc d' C' nx' c' r' tm, LInv most bytes d' C' ms' nx' c' r' m → TellT tm (laLc ms' most bytes) (cuTm l fs most bytes c' i) → lg lc 13 = some [.lst (ms'.map kst) .unk, .int .i64 most, .int .i64 bytes] → QX (.exit 1) (SL.toS ⟨tm, [], none, nx', OO d' C' c' r', lc⟩)) :
  WR Go.Proofs.Try.prog [] ⟨Go.Proofs.Try.f9.ntmps, none, 9⟩ rc9_J3 (SL.toS ⟨(15, .v (.int .i64 n)) :: cuTm l fs most bytes c i, [], none, nx, OO d C c r, laLc ms most bytes⟩) QN QX := by
 obtain ⟨rel, good, fine, hmo, hby, keys, at_, bud⟩ := v
 have g0 : (l.map kst)[i]? = some (kst k) := by rw [List.getElem?_map, hk]; rfl
 obtain ⟨sm1, sm2⟩ := keysC_small good bud
 rw [keys] at sm1 sm2
 have asd := asked_spec ms most bytes k sm1 sm2 (by omega) (by omega) hb2
 have bud' : Bud d C (3400000 * (m + 1) + 3400000) (m + 1 + 1) (7000 * (m + 1) + 7000) := bud.mono (by omega) (by omega) (by omega)
 have fz := fuse_at (d := d) (C := C) (lc := laLc ms most bytes) at_ n
 obtain ⟨t1, t2, t3, t4, t5, t6, t7, t8⟩ := asks_cut rel good fine k (by omega) h8 bud' (by rw [hmo]; exact hm) hn
 obtain ⟨sc, at2⟩ := asks_at (d := (fuseF d n).1) (C := C) (lc := laLc ms most bytes) at_ k (by omega) ((bud_fuse bud' hn).mono (by omega) (by omega) (by omega))
 have hneg : n < 0 → (asksP (fuseF d n).1 C k).2.2 = 0 := fun h => by
  have hf : Fine (fuseF d n).1 := by
   unfold fuseF
   rw [fine.1]
   refine ⟨rfl, ?_⟩
   show (if -1 > n then (-1 : Int) else n) < 0
   split <;> omega
  exact ((asks_keys (x := 0) (n := 0) (z := 0) (rel.same (fuse_same d n)) good k (by omega) h8 ((bud_fuse bud' hn).mono (by omega) (by omega) (by omega)) (by rw [hmo]; exact hm)).2.2.1 hf).1
 generalize asksP (fuseF d n).1 C k = T at *
 obtain ⟨d1, C1, e1⟩ := T
 dsimp only at t1 t2 t3 t4 t5 t6 t7 t8 sc hneg
 generalize asksRow nx r (fuseF d n).1 C k = r1 at *
 generalize nx + asksN (fuseF d n).1 C k = nx1 at *
 generalize (fuseF d n) = F at *
 rw [hmo, hby, keys] at t7 t8
 unfold rc9_J3
 refine WR.seq (WR.reg (WQ.runS [] 2 _ _ _ _ rfl ?_))
 refine WQ.callH rfl rfl rfl rfl rfl fz .base rfl (WQ.nilS ?_)
 refine WR.seq (WR.reg (WQ.runS [] 3 _ _ _ _ rfl ?_))
 refine WQ.lightS rfl rfl rfl (ia_at rfl rfl g0 rfl) rfl (WQ.runS [] 1 _ _ _ _ rfl ?_)
 refine WQ.callH rfl rfl rfl rfl rfl sc .base rfl (WQ.runS [] 1000 _ _ _ _ rfl (WQ.nilS ?_))
 refine WR.seq (WR.dreg hmix (DW.runS [] 3 _ _ _ _ _ _ rfl ?_))
 refine DW.pureS rfl (fun h => ia_at rfl rfl g0 rfl) rfl (DW.runS [] 1 _ _ _ _ _ _ rfl ?_)
 refine DW.objC rfl rfl rfl rfl (DW.runS [] 1 _ _ _ _ _ _ rfl ?_)
 have hg : glim ≤ nx1 := by have := at2.c0; have := at2.cn; show 1000 ≤ _; omega
 refine DW.callH (by repeat (first | exact .nil | refine PendR.passM rfl ?_ | refine PendR.sameM rfl ?_ | refine PendR.lightM rfl ?_)) rfl rfl rfl rfl rfl (asd _) .base rfl (DW.runS [] 1 _ _ _ _ _ _ rfl ?_)
 refine DW.stS (by repeat (first | exact .nil | refine PendR.passM rfl ?_ | refine PendR.sameM rfl ?_ | refine PendR.lightM rfl ?_)) rfl rfl (st_head rfl rfl rfl rfl hg rfl) rfl ?_
 refine DW.runS [] 1000 _ _ _ _ _ _ rfl ?_
 refine DW.finS (by repeat (first | exact .nil | refine PendR.passM rfl ?_ | refine PendR.sameM rfl ?_ | refine PendR.lightM rfl ?_)) ?_
 have hfr : og (OO d1 C1 c r1) nx1 = none := by
  have := at2.c0; have := at2.r0; have := at2.cn; have := at2.rn
  rw [OO_get, if_neg (by omega), if_neg (by omega), if_neg (by omega), if_neg (by omega)]
 refine WR.weak (SW.toLocH (t := 17) rfl hg hfr rfl) ?_
 have at3 := at2.more 1
 refine WR.weak (s := SL.toS ⟨(17, .l 17 0) :: (16, .v (.int .i64 e1)) :: (15, .v (.int .i64 n)) :: cuTm l fs most bytes c i, [], none, nx1 + 1, OO d1 C1 c r1, lcB ms (askF most bytes ms k) most bytes⟩) ?_ ?_
 ·refine SW.tellR ?_ ?_
  ·repeat (first | exact .nil | refine .cons rfl (.v (VLe.refl _)) ?_ | refine .cons rfl (.l _ _ rfl) ?_)
  ·exact .cons rfl (.inl rfl) (.cons rfl (.inl rfl) .nil)
 refine WR.seq (WR.seq (WR.reg (WQ.runS [] 2 _ _ _ _ rfl ?_)))
 by_cases he : e1 = 0
 ·subst he
  refine WQ.nilS (WR.condT rfl ?_)
  obtain ⟨hup, hkeys⟩ := t7 rfl
  refine WR.seq (WR.reg (WQ.runS [] 1000 _ _ _ _ rfl (WQ.nilS ?_)))
  have fz2 := fuse_at (d := d1) (C := C1) (lc := [(17, [.lst ((askF most bytes ms k).map kst) .unk, .int .i64 most, .int .i64 bytes]), (13, [.lst ((askF most bytes ms k).map kst) .unk, .int .i64 most, .int .i64 bytes])]) at3 (-1)
  refine WR.seq (WR.reg (WQ.runS [] 1 _ _ _ _ rfl ?_))
  refine WQ.callH rfl rfl rfl rfl rfl fz2 .base rfl (WQ.nilS ?_)
  refine WR.exit ?_
  refine hx1 (askF most bytes ms k) _ _ C1 _ c r1 _ ⟨t1.same (fuse_same d1 (-1)), t2, fuse_fine hup, t4.trans hmo, t5.trans hby, hkeys, at3, (bud_fuse t3 (by decide)).mono (by omega) (by omega) (by omega)⟩ ?_ rfl
  repeat (first | exact .nil | refine .cons rfl (.v (VLe.refl _)) ?_ | refine .cons rfl (.l _ _ rfl) ?_)
 ·have he2 : e1 = 180 := by rcases t6 with q | q; exact absurd q he; exact q
  subst he2
  refine WQ.nilS (WR.condF rfl (WR.skip ?_))
  refine WR.seq (WR.seq (WR.reg (WQ.runS [] 1000 _ _ _ _ rfl (WQ.nilS (WR.condF rfl (WR.skip ?_))))))
  have pw := power_at (d := d1) (C := C1) (lc := lcB ms (askF most bytes ms k) most bytes) at3
  refine WR.seq (WR.reg (WQ.runS [] 1 _ _ _ _ rfl ?_))
  refine WQ.callH rfl rfl rfl rfl rfl pw .base rfl (WQ.nilS ?_)
  refine WR.weak (kill_OO (t := 11) at3 rfl) ?_
  have r3 := t1.same (power_same d1)
  have b3 := bud_power t3
  have f3 := power_fine d1
  generalize powerF d1 = d3 at r3 b3 f3 ⊢
  have hge : 0 ≤ n := by
   by_cases h : n < 0
   ·have := hneg h; cases this
   ·omega
  have hnx : 1002 ≤ nx1 + 1 := by have := at2.c0; have := at2.cn; omega
  have fin : ∀ (tm : TM) (d4 : Dk) (nx4 g : Nat), 1002 ≤ nx4 → (g : Int) < 9223372036854775808 → Rel d4 C1 → Bud d4 C1 (3400000 * (m + 1)) (m + 1) (7000 * (m + 1)) → Fine d4 → TellT tm (laLc2 ms (askF most bytes ms k) most bytes) ((15, .v (.int .i64 g)) :: (17, .l 17 0) :: cuTm l fs most bytes c i) →
    WR Go.Proofs.Try.prog [] ⟨Go.Proofs.Try.f9.ntmps, none, 9⟩ rc9_J2 (SL.toS ⟨tm, [], none, nx4, dol d4, lcB ms (askF most bytes ms k) most bytes⟩) QN QX := by
   intro tm d4 nx4 g q1 q2 q3 q4 q5 q6
   refine WR.weak (SW.tellR q6 (.cons rfl (.inl rfl) (.cons rfl (.inl rfl) .nil))) ?_
   exact cuts_J2 q1 hm hb q2 q3 t2 q5 (t4.trans hmo) (t5.trans hby) t8 q4 sm1 sm2 hx
  refine WR.seq (WR.seq (WR.reg (WQ.runS [] 2 _ _ _ _ rfl ?_)))
  obtain ⟨g, rfl⟩ : ∃ g : Nat, n = g := ⟨n.toNat, by omega⟩
  cases g with
  | zero =>
   refine WQ.nilS (WR.condF rfl (WR.skip ?_))
   refine fin _ _ _ 0 hnx (by decide) r3 b3 f3 ?_
   repeat (first | exact .nil | refine .cons rfl (.v (VLe.refl _)) ?_ | refine .cons rfl (.l _ _ rfl) ?_)
  | succ g =>
   rw [show decide (((g + 1 : Nat) : Int) > 0) = true from decide_eq_true (by omega)]
   refine WQ.nilS (WR.condT rfl ?_)
   have hw : IntKind.i64.wrap (((g + 1) / 2 : Nat) : Int) = (((g + 1) / 2 : Nat) : Int) := wrap64 (by omega) (by omega)
   refine WR.seq (WR.reg (WQ.runS [] 2 _ _ _ _ rfl ?_))
   refine WQ.lightS rfl rfl rfl (quo_nat2 (a := g + 1) (m := 1) rfl rfl) rfl ?_
   rw [hw]
   have fd := fuse_dol (d := d3) (nx := nx1 + 1) (lc := lcB ms (askF most bytes ms k) most bytes) (((g + 1) / 2 : Nat) : Int)
   have r4 := r3.same (fuse_same d3 (((g + 1) / 2 : Nat) : Int))
   have b4 := bud_fuse b3 (m := (((g + 1) / 2 : Nat) : Int)) (by omega)
   have o4 := (fuse_off f3.1 (((g + 1) / 2 : Nat) : Int)).1
   generalize fuseF d3 (((g + 1) / 2 : Nat) : Int) = F4 at fd r4 b4 o4
   refine WQ.callH rfl rfl rfl rfl rfl fd .base rfl (WQ.nilS ?_)
   have od := open_drop (nx := nx1 + 1) (lc := lcB ms (askF most bytes ms k) most bytes) hnx r4 o4 b4 (by rw [t4, hmo]; exact hm) (by rw [t5, hby]; exact hb)
   rw [t4, t5, hmo, hby] at od
   refine WR.seq (WR.reg (WQ.runS [] 3 _ _ _ _ rfl ?_))
   refine WQ.callH rfl rfl rfl rfl rfl od .base rfl (WQ.runS [] 1000 _ _ _ _ rfl (WQ.nilS ?_))
   have pd := power_dol (d := F4.1) (nx := nx1 + 1 + (opQ C1 + 2)) (lc := lcB ms (askF most bytes ms k) most bytes)
   refine WR.reg (WQ.runS [] 1 _ _ _ _ rfl ?_)
   refine WQ.callH rfl rfl rfl rfl rfl pd .base rfl (WQ.nilS ?_)
   refine fin _ _ _ (g + 1) (by omega) (by omega) (r4.same (power_same _)) (bud_power b4) (power_fine _) ?_
   repeat (first | exact .nil | refine .cons rfl (.v (VLe.refl _)) ?_ | refine .cons rfl (.l _ _ rfl) ?_)
end Go.VM
end
section
/- CachefileCuts: the loop, and the walk. -/
set_option maxRecDepth 100000
set_option linter.unusedVariables false
set_option linter.unusedSimpArgs false
namespace Go.VM
open Go.RowKit
theorem cuts_loop {QN : S → Prop} {QX : X → S → Prop} (l : List (List Nat)) (fs : List Int) (most bytes : Int) (hm : 0 ≤ most) (hb : 0 ≤ bytes) (hb2 : bytes < 9223372036854775808) (hfs : ∀ n ∈ fs, n < 9223372036854775808) (h8 : ∀ k ∈ l, ∀ c ∈ k, c < 256)
  (h0 : ∀ tm nx ol lc, tg tm 9 = some (.v (.bool true)) → (∀ b, b < 1000 → og [] b = og ol b) → QX (.exit 0) (SL.toS ⟨tm, [], none, nx, ol, lc⟩))
  (h1 : ∀ s, RetS Go.Proofs.Try.prog Go.Proofs.Try.f9 (.bool true) 1000 [] s → QX .ret s) : ∀ (m i : Nat) (d : Dk) (C : CSt) (ms : List (List Nat)) (nx c r : Nat), i + m = 30 → LInv most bytes d C ms nx c r (2 * m) →
  WLr Go.Proofs.Try.prog [] ⟨Go.Proofs.Try.f9.ntmps, none, 9⟩ rc9_L1 (SL.toS ⟨cuTm l fs most bytes c i, [], none, nx, OO d C c r, laLc ms most bytes⟩) QN QX := by
 have hll : (l.map kst).length = l.length := List.length_map ..
 have hlf : (fs.map icell).length = fs.length := List.length_map ..
 intro m
 induction m with
 | zero =>
  intro i d C ms nx c r hi v
  unfold rc9_L1
  refine WLr.of ?_
  refine WR.seq (WR.seq (WR.reg (WQ.runS [] 4 _ _ _ _ rfl ?_)))
  by_cases hlt : i < l.length
  ·rw [show decide ((i : Int) < ((l.map kst).length : Int)) = true from decide_eq_true (by omega)]
   refine WQ.runS [] 3 _ _ _ _ rfl ?_
   rw [show decide ((i : Int) < 30) = false from decide_eq_false (by omega)]
   refine WQ.runS [] 1000 _ _ _ _ rfl (WQ.nilS (WR.condF rfl (WR.exit ?_)))
   exact h0 _ _ _ _ rfl (OO_low v.at_)
  ·rw [show decide ((i : Int) < ((l.map kst).length : Int)) = false from decide_eq_false (by omega)]
   refine WQ.runS [] 1000 _ _ _ _ rfl (WQ.nilS (WR.condF rfl (WR.exit ?_)))
   exact h0 _ _ _ _ rfl (OO_low v.at_)
 | succ m ih =>
  intro i d C ms nx c r hi v
  unfold rc9_L1
  refine WLr.of ?_
  refine WR.seq (WR.seq (WR.reg (WQ.runS [] 4 _ _ _ _ rfl ?_)))
  by_cases hlt : i < l.length
  ·rw [show decide ((i : Int) < ((l.map kst).length : Int)) = true from decide_eq_true (by omega)]
   refine WQ.runS [] 3 _ _ _ _ rfl ?_
   rw [show decide ((i : Int) < 30) = true from decide_eq_true (by omega)]
   refine WQ.runS [] 1000 _ _ _ _ rfl (WQ.nilS (WR.condT rfl (WR.skip ?_)))
   obtain ⟨k, hk⟩ : ∃ k, l[i]? = some k := ⟨_, List.getElem?_eq_getElem hlt⟩
   have g0 : (l.map kst)[i]? = some (kst k) := by rw [List.getElem?_map, hk]; rfl
   refine WR.seq (WR.block (WR.seq (WR.seq (WR.reg (WQ.runS [] 1000 _ _ _ _ rfl (WQ.nilS (WR.condF rfl (WR.skip ?_))))))))
   refine WR.seq (WR.seq (WR.reg (WQ.runS [] 2 _ _ _ _ rfl ?_)))
   refine WQ.lightS rfl rfl rfl (ia_at rfl rfl g0 rfl) rfl (WQ.runS [] 3 _ _ _ _ rfl ?_)
   by_cases hbig : (k.length : Int) > 200
   ·rw [show decide ((k.length : Int) > 200) = true from decide_eq_true hbig]
    refine WQ.runS [] 1000 _ _ _ _ rfl (WQ.nilS (WR.condT rfl ?_))
    refine WR.seq (WR.reg (WQ.runS [] 1000 _ _ _ _ rfl (WQ.nilS ?_)))
    exact WR.ret (h1 _ ⟨rfl, rfl, ⟨_, rfl, VLe.refl _⟩, fun b hb => OO_low v.at_ b hb⟩)
   ·rw [show decide ((k.length : Int) > 200) = false from decide_eq_false hbig]
    refine WQ.runS [] 1000 _ _ _ _ rfl (WQ.nilS (WR.condF rfl (WR.skip ?_)))
    have hnext : IntKind.i64.wrap ((i : Int) + 1) = ((i + 1 : Nat) : Int) := by rw [wrap64 (by omega) (by omega)]; rfl
    have fin : ∀ (tm : TM) (lc : LM) (ms' : List (List Nat)) (d2 : Dk) (C2 : CSt) (nx2 c2 r2 : Nat), LInv most bytes d2 C2 ms' nx2 c2 r2 (2 * m) → TellT tm (laLc ms' most bytes) (cuTm l fs most bytes c2 i) → lg lc 13 = some [.lst (ms'.map kst) .unk, .int .i64 most, .int .i64 bytes] →
      WR Go.Proofs.Try.prog [] ⟨Go.Proofs.Try.f9.ntmps, none, 9⟩ rc9_J4 (SL.toS ⟨tm, [], none, nx2, OO d2 C2 c2 r2, lc⟩) (fun s1 => WIr Go.Proofs.Try.prog [] ⟨Go.Proofs.Try.f9.ntmps, none, 9⟩ rc9_L1 s1 QN QX) QX := by
     intro tm lc ms' d2 C2 nx2 c2 r2 v2 ht h13
     refine WR.weak (s := SL.toS ⟨cuTm l fs most bytes c2 i, [], none, nx2, OO d2 C2 c2 r2, laLc ms' most bytes⟩) (SW.tellR ht (.cons h13 (.inl rfl) .nil)) ?_
     unfold rc9_J4
     refine WR.reg (WQ.runS [] 1000 _ _ _ _ rfl (WQ.nilS ?_))
     rw [hnext]
     refine WIr.again (WLr.weak ?_ (ih (i + 1) d2 C2 ms' nx2 c2 r2 (by omega) v2))
     refine SW.tellR ?_ ?_
     ·repeat (first | exact .nil | refine .cons rfl (.v (VLe.refl _)) ?_ | refine .cons rfl (.l _ _ rfl) ?_ | refine .cons rfl (.v (VLe.unk _ _)) ?_)
     ·repeat (first | exact .nil | refine .cons rfl (.inl rfl) ?_)
    have go : ∀ (tm : TM) (n : Int), n < 9223372036854775808 → TellT tm (laLc ms most bytes) ((15, .v (.int .i64 n)) :: cuTm l fs most bytes c i) →
      WR Go.Proofs.Try.prog [] ⟨Go.Proofs.Try.f9.ntmps, none, 9⟩ rc9_J3 (SL.toS ⟨tm, [], none, nx, OO d C c r, laLc ms most bytes⟩) (fun s => WR Go.Proofs.Try.prog [] ⟨Go.Proofs.Try.f9.ntmps, none, 9⟩ rc9_J4 s (fun s1 => WIr Go.Proofs.Try.prog [] ⟨Go.Proofs.Try.f9.ntmps, none, 9⟩ rc9_L1 s1 QN QX) QX) (blkX 1 (fun s => WR Go.Proofs.Try.prog [] ⟨Go.Proofs.Try.f9.ntmps, none, 9⟩ rc9_J4 s (fun s1 => WIr Go.Proofs.Try.prog [] ⟨Go.Proofs.Try.f9.ntmps, none, 9⟩ rc9_L1 s1 QN QX) QX) QX) := by
     intro tm n hn ht
     refine WR.weak (s := SL.toS ⟨(15, .v (.int .i64 n)) :: cuTm l fs most bytes c i, [], none, nx, OO d C c r, laLc ms most bytes⟩) (SW.tellR ht (.cons rfl (.inl rfl) .nil)) ?_
     refine cuts_J3 (m := 2 * m) hm hb hb2 hn hk (by omega) (h8 k (List.mem_of_getElem? hk)) v (fun ms' tm' d' C' nx' c' r' v' ht' => fin tm' _ ms' d' C' nx' c' r' v' ht' rfl) (fun ms' lc d' C' nx' c' r' tm' v' ht' h13 => fin tm' lc ms' d' C' nx' c' r' v' ht' h13)
    refine WR.seq (WR.reg (WQ.runS [] 1000 _ _ _ _ rfl (WQ.nilS ?_)))
    refine WR.seq (WR.seq (WR.reg (WQ.runS [] 4 _ _ _ _ rfl ?_)))
    by_cases hf : i < fs.length
    ·rw [show decide ((i : Int) < ((fs.map icell).length : Int)) = true from decide_eq_true (by omega)]
     refine WQ.nilS (WR.condT rfl ?_)
     obtain ⟨n, hn⟩ : ∃ n, fs[i]? = some n := ⟨_, List.getElem?_eq_getElem hf⟩
     have g1 : (fs.map icell)[i]? = some (icell n) := by rw [List.getElem?_map, hn]; rfl
     refine WR.reg (WQ.runS [] 2 _ _ _ _ rfl ?_)
     refine WQ.lightS rfl rfl rfl (ia_at rfl rfl g1 rfl) rfl (WQ.runS [] 1000 _ _ _ _ rfl (WQ.nilS ?_))
     refine go _ n (hfs n (List.mem_of_getElem? hn)) ?_
     repeat (first | exact .nil | refine .cons rfl (.v (VLe.refl _)) ?_ | refine .cons rfl (.l _ _ rfl) ?_)
    ·rw [show decide ((i : Int) < ((fs.map icell).length : Int)) = false from decide_eq_false (by omega)]
     refine WQ.nilS (WR.condF rfl (WR.skip ?_))
     refine go _ (-1) (by decide) ?_
     repeat (first | exact .nil | refine .cons rfl (.v (VLe.refl _)) ?_ | refine .cons rfl (.l _ _ rfl) ?_)
  ·rw [show decide ((i : Int) < ((l.map kst).length : Int)) = false from decide_eq_false (by omega)]
   refine WQ.runS [] 1000 _ _ _ _ rfl (WQ.nilS (WR.condF rfl (WR.exit ?_)))
   exact h0 _ _ _ _ rfl (OO_low v.at_)
theorem cuts_core (l : List (List Nat)) (fs : List Int) (most bytes : Int) (hb1 : -9223372036854775808 ≤ bytes) (hb2 : bytes < 9223372036854775808) (hfs : ∀ n ∈ fs, n < 9223372036854775808) (h8 : ∀ k ∈ l, ∀ c ∈ k, c < 256) (haw : ∀ h, SCall Go.Proofs.Try.prog [] 11 [] none h (.ret (.bool true)) none h) :
  SCall Go.Proofs.Try.prog [] 9 [.int .i64 most, .int .i64 bytes, .lst (l.map kst) .unk, .lst (fs.map icell) .unk] none ⟨1000, og [], []⟩ (.ret (.bool true)) none ⟨1000, og [], []⟩ := by
 refine SCall.listed (fn := Go.Proofs.Try.f9) (by kernel_rfl) res9 (by kernel_rfl) (by kernel_rfl) (Nat.le_refl _) rfl trivial trivial ?_
 unfold rc9
 have new := new_call ⟨1000, og [], []⟩
 rw [nd_dol] at new
 refine WR.seq (WR.reg (WQ.runS [] 1000 _ _ _ _ rfl (WQ.nilS ?_)))
 refine WR.seq (WR.reg ?_)
 refine WQ.callH rfl rfl rfl rfl rfl (haw _) .base rfl (WQ.runS [] 1000 _ _ _ _ rfl (WQ.nilS ?_))
 have bad : ∀ tm : TM, tg tm 9 = some (.v (.bool true)) → ∀ QN QX, (∀ s, RetS Go.Proofs.Try.prog Go.Proofs.Try.f9 (.bool true) 1000 [] s → QX .ret s) →
   WR Go.Proofs.Try.prog [] ⟨Go.Proofs.Try.f9.ntmps, none, 9⟩ (.seq (.reg [.mv 9 32, .mv 32 8]) .ret) (SL.toS ⟨tm, [], none, 1000, [], []⟩) QN QX := by
  intro tm g9 QN QX hq
  refine WR.weak (s := SL.toS ⟨[(9, .v (.bool true))], [], none, 1000, [], []⟩) (SW.tellR (.cons g9 (.v (VLe.refl _)) .nil) .nil) ?_
  refine WR.seq (WR.reg (WQ.runS [] 1000 _ _ _ _ rfl (WQ.nilS ?_)))
  exact WR.ret (hq _ ⟨rfl, rfl, ⟨_, rfl, VLe.refl _⟩, fun b hb => rfl⟩)
 refine WR.seq (WR.seq (WR.reg (WQ.runS [] 3 _ _ _ _ rfl ?_)))
 by_cases hm : most < 0
 ·rw [show decide (most < 0) = true from decide_eq_true hm]
  refine WQ.runS [] 1000 _ _ _ _ rfl (WQ.nilS (WR.condT rfl ?_))
  exact bad _ rfl _ _ (fun s q => q)
 rw [show decide (most < 0) = false from decide_eq_false hm]
 refine WQ.runS [] 2 _ _ _ _ rfl ?_
 by_cases hb : bytes < 0
 ·rw [show decide (bytes < 0) = true from decide_eq_true hb]
  refine WQ.runS [] 1000 _ _ _ _ rfl (WQ.nilS (WR.condT rfl ?_))
  exact bad _ rfl _ _ (fun s q => q)
 rw [show decide (bytes < 0) = false from decide_eq_false hb]
 refine WQ.runS [] 1000 _ _ _ _ rfl (WQ.nilS (WR.condF rfl (WR.skip ?_)))
 have hm : 0 ≤ most := by omega
 have hb : 0 ≤ bytes := by omega
 refine WR.seq (WR.reg ?_)
 refine WQ.callH rfl rfl rfl rfl rfl new .base rfl (WQ.runS [] 1000 _ _ _ _ rfl (WQ.nilS ?_))
 have bud : Bud d0 (C0 most bytes) (3400000 * 60) 60 (7000 * 60) := ⟨by decide, by decide, by decide, by decide, by show 0 + _ ≤ _; omega, by show 0 + _ ≤ _; omega, Int.le_refl _, by show (0 : Int) + _ ≤ _; omega, fun e he => (by cases he), hb1, hb2, .inl rfl⟩
 obtain ⟨op, at0⟩ := open_at (nx := 1002) (lc := []) (Nat.le_refl _) (rel0 most bytes) rfl bud hm hb
 have op : SCall Go.Proofs.Try.prog [] 18 [.ptr 1000 0, .int .i64 most, .int .i64 bytes] none ⟨1002, og (dol d0), []⟩ (.ret (.tup [.ptr 1010 0, .int .i64 0])) none ⟨1011, og (OO d0 (C0 most bytes) 1010 1009), []⟩ := op
 have at0 : At 1011 1010 1009 := at0
 refine WR.seq (WR.reg (WQ.runS [] 3 _ _ _ _ rfl ?_))
 refine WQ.callH rfl rfl rfl rfl rfl op .base rfl (WQ.runS [] 1000 _ _ _ _ rfl (WQ.nilS ?_))
 refine WR.seq (WR.reg (WQ.runS [] 1000 _ _ _ _ rfl (WQ.nilS ?_)))
 refine WR.seq (WR.seq (WR.reg (WQ.runS [] 1000 _ _ _ _ rfl (WQ.nilS ?_))))
 have hkeys : keysC (C0 most bytes) = [] := by
  show keepK most bytes (ordK []) = []
  rw [ordK_nil]; rfl
 refine WR.block (WR.loop ?_)
 refine WLr.weak (s := SL.toS ⟨cuTm l fs most bytes 1010 0, [], none, 1011, OO d0 (C0 most bytes) 1010 1009, laLc [] most bytes⟩) ?_ (cuts_loop l fs most bytes hm hb hb2 hfs h8 (fun tm nx ol lc g9 hlow => ?_) (fun s q => q) 30 0 d0 (C0 most bytes) [] 1011 1010 1009 rfl ⟨rel0 most bytes, good0 most bytes, ⟨rfl, by decide⟩, rfl, rfl, hkeys, at0, bud⟩)
 ·refine SW.tellR ?_ (.cons rfl (.inr (.cons (VLe.unk _ _) rfl (.cons (VLe.refl _) rfl (.cons (VLe.refl _) rfl .nil)))) .nil)
  repeat (first | exact .nil | refine .cons rfl (.v (VLe.refl _)) ?_ | refine .cons rfl (.l _ _ rfl) ?_)
 ·show WR Go.Proofs.Try.prog [] _ rc9_J5 _ _ _
  refine WR.weak (s := SL.toS ⟨[(9, .v (.bool true))], [], none, nx, ol, []⟩) (SW.tellR (.cons g9 (.v (VLe.refl _)) .nil) .nil) ?_
  unfold rc9_J5
  refine WR.seq (WR.reg (WQ.runS [] 1000 _ _ _ _ rfl (WQ.nilS ?_)))
  exact WR.ret ⟨rfl, rfl, ⟨_, rfl, VLe.refl _⟩, fun b hb => hlow b hb⟩
end Go.VM
end
