/- laid for this seat: VcTidy VcLift VcComp VcComp2 VcComp3 VcComp4 VcComp5 VcComp6 -/
import Derived.Test.YtonlemmcdecibaaVg08
section
/- The cache: what is kept; how much room that takes. -/
set_option maxRecDepth 100000
set_option linter.unusedVariables false
set_option linter.unusedSimpArgs false
namespace Go.VM
open Go.RowKit
structure CFit (C : CSt) : Prop where
 n : C.L.length ≤ 100000
 sz : ∀ e ∈ C.L, sizeZ e ≤ 1000000
 b1 : -9223372036854775808 ≤ C.bytes
 b2 : C.bytes < 9223372036854775808
theorem CO_row' {d : Dk} {C : CSt} {r nx : Nat} {lc : LM} (h : 1003 ≤ r) : C.L ≠ [] → (⟨nx, og (CO d C r), lc⟩ : H).ob r = some (.cells true (flatZ C.L)) := fun hne => by
 have := CO_row (d := d) (C := C) h
 rw [rowO_some hne] at this
 exact this
theorem keptC (d : Dk) (C : CSt) (r nx : Nat) (lc : LM) (hr : 1003 ≤ r) (ft : CFit C) : SCall Go.Proofs.Try.prog [] 39 [clV r C.L, .int .i64 C.most, .int .i64 C.bytes] none ⟨nx, og (CO d C r), lc⟩ (.ret (.lst ((keptF C.L C.most C.bytes).map kcell) .unk)) none ⟨nx, og (CO d C r), lc⟩ :=
 kept_spec C.L C.most C.bytes ft.n (fun e he => by have := ft.sz e he; omega) ft.b1 ft.b2 (by show 1000 ≤ r; omega) (CO_row' hr)
theorem keptCore (d : Dk) (C : CSt) (r nx : Nat) (hr : 1003 ≤ r) (hrn : r < nx) (ft : CFit C) :
  SCall Go.Proofs.Try.prog [] 25 [.ptr 1002 0] none ⟨nx, og (CO d C r), []⟩ (.ret (.lst ((runP C.L C.most C.bytes).map encZ) .unk)) none ⟨nx, og (CO d C r), []⟩ := by
 refine cacheCall (fn := Go.Proofs.Try.f25) (by kernel_rfl) res25 (by kernel_rfl) (by kernel_rfl) (Nat.le_refl _) hr hrn (by exact ⟨encZs_in _, trivial⟩) ?_
 unfold rc25
 refine WR.seq (WR.reg (WQ.runS [] 1000 _ _ _ _ rfl (WQ.nilS ?_)))
 refine WR.seq (WR.seq (WR.reg (WQ.runS [] 1000 _ _ _ _ rfl (WQ.nilS (WR.condF rfl (WR.skip ?_))))))
 refine WR.seq (WR.dreg hmix (DW.runS [] 1000 _ _ _ _ _ _ rfl ?_))
 refine DW.callH (by repeat (first | exact .nil | refine PendR.passM rfl ?_ | refine PendR.sameM rfl ?_ | refine PendR.lightM rfl ?_)) rfl rfl rfl rfl rfl (runP_spec C.L C.most C.bytes ft.n (fun e he => by have := ft.sz e he; omega) ft.b1 ft.b2 (by show 1000 ≤ r; omega) (CO_row' hr)) .base rfl (DW.runS [] 1000 _ _ _ _ _ _ rfl ?_)
 refine DW.finS (by repeat (first | exact .nil | refine PendR.passM rfl ?_ | refine PendR.sameM rfl ?_ | refine PendR.lightM rfl ?_)) ?_
 repeat (first | refine WR.seq ?_ | refine WR.block ?_ | refine WR.scope ?_ | refine WR.skip ?_ | refine WR.exit ?_ | refine WR.condT rfl ?_ | refine WR.condF rfl ?_ | refine WR.reg (WQ.runS [] 1000 _ _ _ _ rfl ?_) | refine WQ.nilS ?_ | refine WR.dreg hmix (DW.runS [] 1000 _ _ _ _ _ _ rfl ?_))
 refine WR.ret ⟨rfl, rfl, ⟨_, rfl, VLe.refl _⟩, fun b _ => rfl⟩
def roomZ (L : List EZ) : List Nat → Nat
 | [] => 0
 | i :: is => (match L[i]? with | some e => (entryB e.k e.v).length + 5 | none => 0) + roomZ L is
theorem entryB_len (k v : List Nat) : (entryB k v).length = 9 + k.length + v.length := by
 simp [entryB, num4_len]; omega
def tTm (is : List Nat) (room j : Nat) : TM := [(0, .v (.ptr 1002 0)), (3, .v (.int .i64 (room : Int))), (18, .v (.lst (is.map kcell) .unk)), (19, .v (.int .i64 is.length)), (20, .v (.int .i64 j))]
theorem tidy_loop {QN : S → Prop} {QX : X → S → Prop} (d : Dk) (most bytes root : Int) (len : Nat) (L : List EZ) (last : Int) (r nx : Nat) (hr : 1003 ≤ r) (hL : L.length ≤ 100000) (hsz : ∀ e ∈ L, sizeZ e ≤ 1000000) (is : List Nat) (hin : ∀ x ∈ is, x < L.length) (hlen : is.length ≤ 100000) : ∀ (m j room : Nat), j + m = is.length → room ≤ 1000014 * j →
  (∀ tm, tg tm 0 = some (.v (.ptr 1002 0)) → tg tm 3 = some (.v (.int .i64 ((room + roomZ L (is.drop j) : Nat) : Int))) → room + roomZ L (is.drop j) ≤ 1000014 * is.length → QX (.exit 0) (SL.toS ⟨tm, [], none, nx, cpR d most bytes root len L.length last r ++ [(r, .cells true (flatZ L))], []⟩)) →
  WLr Go.Proofs.Try.prog [] ⟨Go.Proofs.Try.f46.ntmps, none, 46⟩ rc46_L1 (SL.toS ⟨tTm is room j, [], none, nx, cpR d most bytes root len L.length last r ++ [(r, .cells true (flatZ L))], []⟩) QN QX := by
 have hp := cpR_lt (d := d) (most := most) (bytes := bytes) (root := root) (len := len) (n := L.length) (last := last) (r := r) hr
 have hrow : og (cpR d most bytes root len L.length last r ++ [(r, .cells true (flatZ L))]) r = some (.cells true (flatZ L)) := rowAt _ hp
 intro m
 induction m with
 | zero =>
  intro j room hj hroom hx
  unfold rc46_L1
  refine WLr.of ?_
  refine WR.seq (WR.reg (WQ.runS [] 1000 _ _ _ _ rfl (WQ.nilS ?_)))
  rw [show decide ((j : Int) < (is.length : Int)) = false from decide_eq_false (by omega)]
  refine WR.seq (WR.condF rfl (WR.exit ?_))
  rw [List.drop_eq_nil_iff.2 (by omega), show j = is.length by omega] at *
  exact hx _ rfl rfl (by simp only [roomZ]; omega)
 | succ m ih =>
  intro j room hj hroom hx
  have hlt : j < is.length := by omega
  obtain ⟨i, hi⟩ : ∃ i, is[j]? = some i := ⟨_, List.getElem?_eq_getElem hlt⟩
  obtain ⟨e, he⟩ : ∃ e, L[i]? = some e := ⟨_, List.getElem?_eq_getElem (hin i (List.mem_of_getElem? hi))⟩
  have hiL := (List.getElem?_eq_some_iff.1 he).1
  have g0 : (is.map kcell)[j]? = some (kcell i) := by rw [List.getElem?_map, hi]; rfl
  have gk : (flatZ L)[0 + i * 4 + 0]? = some (.str e.k) := by rw [Nat.zero_add, flatZ_get L i e 0 (by omega) he]; rfl
  have gv : (flatZ L)[0 + i * 4 + 1]? = some (.str e.v) := by rw [Nat.zero_add, flatZ_get L i e 1 (by omega) he]; rfl
  have hd : is.drop j = i :: is.drop (j + 1) := by
   rw [List.drop_eq_getElem_cons hlt]
   congr 1
   rw [List.getElem?_eq_getElem hlt] at hi; exact Option.some.inj hi
  have hse := hsz e (List.mem_of_getElem? he)
  unfold sizeZ at hse
  have hel := entryB_len e.k e.v
  have hrz : roomZ L (is.drop j) = (entryB e.k e.v).length + 5 + roomZ L (is.drop (j + 1)) := by rw [hd]; simp only [roomZ, he]
  unfold rc46_L1
  refine WLr.of ?_
  refine WR.seq (WR.reg (WQ.runS [] 1000 _ _ _ _ rfl (WQ.nilS ?_)))
  rw [show decide ((j : Int) < (is.length : Int)) = true from decide_eq_true (by omega)]
  refine WR.seq (WR.condT rfl (WR.skip ?_))
  refine WR.seq (WR.block (WR.seq (WR.reg ?_)))
  refine WQ.lightS rfl rfl rfl (ia_at rfl rfl g0 rfl) rfl (WQ.runS [] 1000 _ _ _ _ rfl (WQ.nilS ?_))
  refine WR.dreg hmix (DW.runS [] 6 _ _ _ _ _ _ rfl ?_)
  refine DW.pureS rfl (fun h => rowIa rfl rfl hiL) rfl (DW.runS [] 1 _ _ _ _ _ _ rfl ?_)
  refine DW.lightS rfl (atLd rfl hrow gk) rfl (DW.runS [] 5 _ _ _ _ _ _ rfl ?_)
  refine DW.pureS rfl (fun h => rowIa rfl rfl hiL) rfl (DW.runS [] 1 _ _ _ _ _ _ rfl ?_)
  refine DW.lightS rfl (atLd rfl hrow gv) rfl ?_
  refine DW.callH (by repeat (first | exact .nil | refine PendR.passM rfl ?_ | refine PendR.sameM rfl ?_ | refine PendR.lightM rfl ?_)) rfl rfl rfl rfl rfl (entry_spec e.k e.v (by omega) (by omega) _) .base rfl (DW.runS [] 2 _ _ _ _ _ _ rfl ?_)
  rw [show IntKind.i64.wrap (((entryB e.k e.v).length : Int) + 5) = (((entryB e.k e.v).length + 5 : Nat) : Int) from by rw [wrap64 (by omega) (by omega)]; rfl]
  refine DW.runS [] 1 _ _ _ _ _ _ rfl ?_
  rw [waddL (x := room) (y := (entryB e.k e.v).length + 5) (by omega) (by omega)]
  refine DW.runS [] 1000 _ _ _ _ _ _ rfl ?_
  refine DW.finS (by repeat (first | exact .nil | refine PendR.passM rfl ?_ | refine PendR.sameM rfl ?_ | refine PendR.lightM rfl ?_)) ?_
  unfold rc46_J1
  repeat (first | refine WR.seq ?_ | refine WR.block ?_ | refine WR.scope ?_ | refine WR.skip ?_ | refine WR.exit ?_ | refine WR.condT rfl ?_ | refine WR.condF rfl ?_ | refine WR.reg (WQ.runS [] 1000 _ _ _ _ rfl ?_) | refine WQ.nilS ?_ | refine WR.dreg hmix (DW.runS [] 1000 _ _ _ _ _ _ rfl ?_))
  rw [show IntKind.i64.wrap ((j : Int) + 1) = ((j + 1 : Nat) : Int) from by rw [wrap64 (by omega) (by omega)]; rfl]
  refine WIr.again (WLr.weak ?_ (ih (j + 1) (room + ((entryB e.k e.v).length + 5)) (by omega) (by omega) (fun tm t0 t3 hle => hx tm t0 (by rw [t3, hrz]; congr 4; omega) (by omega))))
  refine SW.tellR ?_ ?_
  ·repeat (first | exact .nil | refine .cons rfl (.v (VLe.refl _)) ?_ | refine .cons rfl (.l _ _ rfl) ?_ | refine .cons rfl (.v (VLe.unk _ _)) ?_)
  ·repeat (first | exact .nil | refine .cons rfl (.inl rfl) ?_)
end Go.VM
end
section
/- The cache over any memory; appending to a row that may be none yet. -/
set_option maxRecDepth 100000
set_option linter.unusedVariables false
set_option linter.unusedSimpArgs false
namespace Go.VM
open Go.RowKit
structure HC (h : H) (b t c r : Nat) (d : Dk) (C : CSt) : Prop where
 hb : glim ≤ b
 ht : glim ≤ t
 hc : glim ≤ c
 hr : glim ≤ r
 nd : [b, t, c, r].Nodup
 ob : h.ob b = some (.cells false (encD d t))
 tk : h.ob t = some (.tok d.ws.length)
 cc : h.ob c = some (.cells false (encC b r C))
 row : h.ob r = some (rowO C.L)
def hcp (h : H) (b t c r : Nat) (d : Dk) (C : CSt) : H := (((h.put b (.cells false (encD d t))).put t (.tok d.ws.length)).put c (.cells false (encC b r C))).put r (rowO C.L)
theorem clV_ren {ρ : Nat → Nat} {r : Nat} (L : List EZ) : (clV r L).ren ρ = clV (ρ r) L := by
 cases L <;> rfl
theorem encC_ren {ρ : Nat → Nat} {b r : Nat} (C : CSt) : rens ρ (encC b r C) = encC (ρ b) (ρ r) C := by
 simp only [encC, rens, V.ren, clV_ren]
theorem rowO_ren {ρ : Nat → Nat} (L : List EZ) : (rowO L).ren ρ = rowO L := by
 cases L with
 | nil => rfl
 | cons e l => show Obj.cells true (rens ρ (flatZ (e :: l))) = _; rw [flatZ_ren]; rfl
theorem CO_some {d : Dk} {C : CSt} (i : Nat) : (og (CO d C 1003) i).isSome = true ↔ 1000 ≤ i ∧ i < 1004 := by
 simp only [CO, CP, List.cons_append, List.nil_append, og_cons]
 split
 ·simp; omega
 ·split
  ·simp; omega
  ·split
   ·simp; omega
   ·split
    ·simp; omega
    ·simp [og]; omega
theorem cache_lift0 {f : FuncId} {xs : List V} {v : V} {d d' : Dk} {C C' : CSt} (core : SCall Go.Proofs.Try.prog [] f (.ptr 1002 0 :: xs) none ⟨1004, og (CO d C 1003), []⟩ (.ret v) none ⟨1004, og (CO d' C' 1003), []⟩) (ha : Ins (· < glim) xs) (hv : v.In (· < glim)) {h : H} {b t c r : Nat} (k : HC h b t c r d C) :
  SCall Go.Proofs.Try.prog [] f (.ptr c 0 :: xs) none h (.ret v) none (hcp h b t c r d' C') := by
 obtain ⟨hb, ht, hc, hr, nd, ob, tk, cc, row⟩ := k
 have nd' := nd
 simp only [List.nodup_cons, List.mem_cons, List.not_mem_nil, not_or, or_false, not_false_eq_true, List.nodup_nil, and_true] at nd'
 obtain ⟨⟨bt, bc, br⟩, ⟨tc, tr⟩, cr⟩ := nd'
 have e0 : ρL [b, t, c, r] h.nxt 1000 = b := ρL_at (i := 0) rfl
 have e1 : ρL [b, t, c, r] h.nxt 1001 = t := ρL_at (i := 1) rfl
 have e3 : ρL [b, t, c, r] h.nxt 1003 = r := ρL_at (i := 3) rfl
 refine SCall.frameL (n := 0) [b, t, c, r] rfl core nd (by simp [hb, ht, hc, hr]) (fun i => CO_some i) rfl (fun i z o hi ho => ?_) (CO_in (by show 1003 < glim + 4; decide) (by decide)) ⟨(by show 1002 < glim + 4; decide), Ins.mono (fun i hi => Nat.lt_of_lt_of_le hi (Nat.le_add_right _ _)) ha⟩ (hv.mono fun i hi => Nat.lt_of_lt_of_le hi (Nat.le_add_right _ _)) (CO_in (by show 1003 < glim + 4; decide) (by decide)) ?_ (V.ren_id (fun i hi => ρL_low hi) hv) rfl rfl (fun i hi => ?_) (fun z hz => ?_)
 ·match i, hi with
  | 0, hi => cases hi; cases ho; simp only [Obj.ren, encD_ren, e1]; exact ob
  | 1, hi => cases hi; cases ho; exact tk
  | 2, hi => cases hi; cases ho; simp only [Obj.ren, encC_ren, e0, e3]; exact cc
  | 3, hi => cases hi; cases ho; rw [rowO_ren]; exact row
 ·show _ :: rens _ xs = _
  rw [rens_low ha]; rfl
 ·have hi : i < 4 := hi
  match i, hi with
  | 0, _ =>
   show (if b = r then _ else if b = c then _ else if b = t then _ else if b = b then _ else _) = some (Obj.ren _ (.cells false (encD d' 1001)))
   rw [if_neg br, if_neg bc, if_neg bt, if_pos rfl]
   simp only [Obj.ren, encD_ren, e1]
  | 1, _ =>
   show (if t = r then _ else if t = c then _ else if t = t then _ else _) = some (Obj.tok d'.ws.length)
   rw [if_neg tr, if_neg tc, if_pos rfl]
  | 2, _ =>
   show (if c = r then _ else if c = c then _ else _) = some (Obj.ren _ (.cells false (encC 1000 1003 C')))
   rw [if_neg cr, if_pos rfl]
   simp only [Obj.ren, encC_ren, e0, e3]
  | 3, _ =>
   show (if r = r then _ else _) = some (Obj.ren _ (rowO C'.L))
   rw [if_pos rfl, rowO_ren]
 ·have h0 : b ≠ z := hz 0 (by show 0 < 4; decide)
  have h1 : t ≠ z := hz 1 (by show 1 < 4; decide)
  have h2 : c ≠ z := hz 2 (by show 2 < 4; decide)
  have h3 : r ≠ z := hz 3 (by show 3 < 4; decide)
  show (if z = r then _ else if z = c then _ else if z = t then _ else if z = b then _ else _) = _
  rw [if_neg (fun e => h3 e.symm), if_neg (fun e => h2 e.symm), if_neg (fun e => h1 e.symm), if_neg (fun e => h0 e.symm)]
theorem Does.dropTok {P : Program} {gl : List Nat} {nt : Nat} {tm : TM} {h h' : H} {o : Oper} {tv : TV} {k n : Nat} (s : Does P gl nt tm h o tv h') (hk : h'.ob k = some (.tok n)) : Does P gl nt tm h o tv (h'.kill k) := by
 intro E F w0 w tmps m hg r
 obtain ⟨E', F', w', m', v', a1, a2, a3, a4, a5, a6, a7⟩ := s E F w0 w tmps m hg r
 exact ⟨E', F', w', m', v', a1, a2, a3.trans (kill_ext a6 (.inr (.inl ⟨n, hk⟩))), a4, a5, a6.killed k, a7⟩
theorem cacheApp {nt nx r : Nat} {tm : TM} {x y : RX} {z : List V} {c : LC} {lc : LM} {p : OL} (hp : keysLt p r) (hr : glim ≤ r) (hrn : r < nx) (L : List EZ) (e : EZ) (hl : L.length ≤ 1000000) (hx : rv [] tm x = some (clV r L)) (hy : rv [] tm y = some (.lst [encZ e] c)) :
  DoesR Go.Proofs.Try.prog [] nt tm ⟨nx, og (p ++ [(r, rowO L)]), lc⟩ (some (.app x y 4 48 z)) (.v (.sl nx 0 (L.length + 1) (.op 4))) ⟨nx + 1, og (p ++ [(nx, .cells true (flatZ (L ++ [e])))]), lc⟩ := by
 cases L with
 | nil =>
  intro o hro
  refine ⟨?_, nd_of hro rfl⟩
  have hx' : rv [] tm x = some (.lst [] (.ex 0)) := hx
  have h1 := app_own0 (P := Go.Proofs.Try.prog) (gl := []) (nt := nt) (tm := tm) (h := ⟨nx, og (p ++ [(r, rowO [])]), lc⟩) hro hx' (.lst [encZ e] c hy (by intro e' he; simp at he; subst he; rfl)) (by simp) (by simp [lim])
  have h2 := h1.dropTok (k := r) (n := 0) (by
   show (if r = nx then _ else og (p ++ [(r, rowO [])]) r) = _
   rw [if_neg (by omega), rowAt _ hp]; rfl)
  have e2 : (H.new ⟨nx, og (p ++ [(r, rowO [])]), lc⟩ (.cells true ([encZ e] : List (List V)).flatten)).kill r = ⟨nx + 1, og (p ++ [(nx, .cells true (flatZ ([] ++ [e])))]), lc⟩ := by
   simp only [H.new, H.kill]
   congr 1
   funext k
   rw [og_app, og_app, og_one, og_one]
   by_cases e1 : k = r
   ·subst e1
    rw [if_pos rfl, og_hi hp (Nat.le_refl _), if_neg (by omega)]
   ·rw [if_neg e1, if_neg e1]
    by_cases e3 : k = nx
    ·subst e3
     rw [if_pos rfl, if_pos rfl, og_hi hp (by omega)]; rfl
    ·rw [if_neg e3, if_neg e3]
  rw [e2] at h2
  exact h2
 | cons e0 l =>
  exact rowApp (P := Go.Proofs.Try.prog) (gl := []) (nt := nt) (tm := tm) (x := x) (y := y) (z := z) (lc := lc) (bytes := 48) (p := p) (N := r) (nx := nx) (n := l.length + 1) (n2 := (e0 :: l).length + 1) (sz := 4) (opn := true) (cs := flatZ (e0 :: l)) (fs := [encZ e]) (fl := flatZ (e0 :: l ++ [e])) hp hr hrn hx (by rw [flatZ_len]; simp) (by omega) hy (fun e he => by simp at he; subst he; rfl) (by simp) (by simp [lim] at hl ⊢; omega) (by simp) (by simp [flatZ])
end Go.VM
end
section
/- The cache: laying all anew: a round of the loop. -/
set_option maxRecDepth 100000
set_option linter.unusedVariables false
set_option linter.unusedSimpArgs false
namespace Go.VM
open Go.RowKit
theorem backward_core (es : List (List V)) (hes : Inss (fun _ => False) es) : SCall Go.Proofs.Try.prog [] 50 [.lst es .unk] none ⟨1000, og [], []⟩ (.ret (.fn (.func 73) [] [.ptr 1000 0])) none ⟨1001, og [(1000, .cells false [.lst es .unk])], []⟩ := by
 refine SCall.listed (fn := Go.Proofs.Try.f50) (by kernel_rfl) res50 (by kernel_rfl) (by kernel_rfl) (Nat.le_succ _) rfl ⟨⟨⟨Inss.mono (fun _ q => q.elim) hes, trivial⟩, trivial⟩, trivial⟩ ⟨trivial, trivial, (by show (1000 : Nat) < 1001; decide), trivial⟩ ?_
 unfold rc50
 refine WR.seq (WR.reg (WQ.runS [1] 1000 _ _ _ _ rfl (WQ.nilS ?_)))
 refine WR.seq (WR.reg (WQ.runS [] 1000 _ _ _ _ rfl (WQ.nilS ?_)))
 refine WR.ret ⟨rfl, rfl, ⟨_, rfl, VLe.refl _⟩, fun b _ => rfl⟩
theorem backward_spec (es : List (List V)) (hes : Inss (fun _ => False) es) (hren : ∀ ρ, renss ρ es = es) (h : H) : SCall Go.Proofs.Try.prog [] 50 [.lst es .unk] none h (.ret (.fn (.func 73) [] [.ptr h.nxt 0])) none (h.new (.cells false [.lst es .unk])) := by
 have r0 : ρL [] h.nxt 1000 = h.nxt := (ρL_new (bs := []) (i := 1000) (Nat.le_refl _)).trans (by simp [glim])
 refine SCall.frameL (n := 1) [] rfl (backward_core es hes) .nil (by simp) (fun i => ?_) rfl (fun i c o hi ho => by cases hi) trivial (by exact ⟨⟨Inss.mono (fun _ q => q.elim) hes, trivial⟩, trivial⟩) ⟨trivial, trivial, (by show (1000 : Nat) < 1001; decide), trivial⟩ (by exact ⟨⟨⟨Inss.mono (fun _ q => q.elim) hes, trivial⟩, trivial⟩, trivial⟩) (by show [V.lst (renss _ es) _] = _; rw [hren]; rfl) ?_ rfl rfl (fun i hi => ?_) (fun c hc => ?_)
 ·show (Option.isSome none = true) ↔ 1000 ≤ i ∧ i < 1000
  simp
 ·show V.fn (.func 73) [] [V.ptr (ρL [] h.nxt 1000) 0] = _
  rw [r0]
 ·have hi : i = 0 := by have : i < 1 := hi; omega
  subst hi
  show (h.new _).ob (ρL [] h.nxt 1000) = some (Obj.cells false [V.lst (renss _ es) _])
  rw [r0, hren]
  show (if h.nxt = h.nxt then _ else _) = _
  rw [if_pos rfl]; rfl
 ·have : ρL [] h.nxt 1000 ≠ c := hc 0 (by show 0 < 1; decide)
  rw [r0] at this
  show (if c = h.nxt then _ else _) = _
  rw [if_neg (fun e => this e.symm)]
def putN (N : CSt) (x : EZ) : CSt := { N with L := N.L ++ [⟨x.k, x.v, false, 0⟩] }
def cstep (s : Dk × Int × CSt) (x : EZ) : Dk × Int × CSt :=
 let a : Dk × CSt × Int := if s.2.1 = 0 then addP s.1 s.2.2 (entryB x.k x.v) else (s.1, s.2.2, s.2.1)
 if a.2.2 = 0 then ((marksP a.1 (putN a.2.1 x) 2 a.2.1.L.length).1, (marksP a.1 (putN a.2.1 x) 2 a.2.1.L.length).2.2, (marksP a.1 (putN a.2.1 x) 2 a.2.1.L.length).2.1)
 else (a.1, a.2.2, putN a.2.1 x)
def preK (d : Dk) (cc : List V) (rowC : Obj) (e : Int) (N : CSt) (rn : Nat) (is : List (List V)) (lp : ALoop) : OL :=
 [(1000, .cells false (encD d 1001)), (1001, .tok d.ws.length), (1002, .cells false cc), (1003, rowC), (1004, .cells false [.ptr 1002 0]), (1005, .cells false [.int .i64 e]), (1006, .cells false (encC 1000 rn N)), (1007, .cells false [.ptr 1006 0]), (1008, .cells false [.lst is .unk]), (1009, .dfr (some [])), (1010, .loop lp)]
def memK (d : Dk) (cc : List V) (rowC : Obj) (e : Int) (N : CSt) (rn : Nat) (is : List (List V)) (lp : ALoop) : OL := preK d cc rowC e N rn is lp ++ [(rn, rowO N.L)]
theorem preK_lt {d : Dk} {cc : List V} {rowC : Obj} {e : Int} {N : CSt} {rn : Nat} {is : List (List V)} {lp : ALoop} {M : Nat} (h : 1011 ≤ M) : keysLt (preK d cc rowC e N rn is lp) M := by
 intro e he
 simp only [preK, List.mem_cons, List.not_mem_nil, or_false] at he
 rcases he with rfl | rfl | rfl | rfl | rfl | rfl | rfl | rfl | rfl | rfl | rfl <;> simp only <;> omega
theorem memK_B {d : Dk} {cc : List V} {rowC : Obj} {e : Int} {N : CSt} {rn : Nat} {is : List (List V)} {lp : ALoop} {nx : Nat} (h : 1011 ≤ rn) (h2 : rn < nx) : olB nx (memK d cc rowC e N rn is lp) = true := by
 have e : ∀ k, k < 1011 → Nat.blt k nx = true := fun k hk => by rw [Nat.blt_eq]; omega
 have e2 : Nat.blt rn nx = true := by rw [Nat.blt_eq]; omega
 simp only [memK, preK, List.cons_append, List.nil_append, olB, e 1000 (by omega), e 1001 (by omega), e 1002 (by omega), e 1003 (by omega), e 1004 (by omega), e 1005 (by omega), e 1006 (by omega), e 1007 (by omega), e 1008 (by omega), e 1009 (by omega), e 1010 (by omega), e2, Bool.and_self]
theorem memK_ref {d : Dk} {cc : List V} {rowC : Obj} {e : Int} {N : CSt} {rn : Nat} {is : List (List V)} {lp : ALoop} {nx : Nat} (h : 1011 ≤ rn) (h2 : rn < nx) (hcc : Ins (· < nx) cc) (hrc : rowC.In (· < nx)) (his : Inss (fun _ => False) is) :
  ∀ c o, c ≠ 1009 → c ≠ 1010 → og (memK d cc rowC e N rn is lp) c = some o → ORefLt nx o := by
 intro c o h9 h10 ho
 simp only [memK, preK, List.cons_append, List.nil_append, og_cons] at ho
 split at ho
 ·cases ho; exact Obj.In.refLt (o := .cells false _) (encD_in d 1001 (by show 1001 < nx; omega) (by decide))
 split at ho
 ·cases ho; exact fun E p w h => h
 split at ho
 ·cases ho; exact Obj.In.refLt (o := .cells false _) hcc
 split at ho
 ·cases ho; exact hrc.refLt
 split at ho
 ·cases ho; exact Obj.In.refLt (o := .cells false _) ⟨(by show 1002 < nx; omega), trivial⟩
 split at ho
 ·cases ho; exact Obj.In.refLt (o := .cells false _) ⟨trivial, trivial⟩
 split at ho
 ·cases ho; exact Obj.In.refLt (o := .cells false _) ⟨(by show 1000 < nx; omega), trivial, trivial, trivial, trivial, clV_in _ h2, trivial, trivial⟩
 split at ho
 ·cases ho; exact Obj.In.refLt (o := .cells false _) ⟨(by show 1006 < nx; omega), trivial⟩
 split at ho
 ·cases ho; exact Obj.In.refLt (o := .cells false _) ⟨⟨Inss.mono (fun _ q => q.elim) his, trivial⟩, trivial⟩
 split at ho
 ·cases ho; exact (rowO_in N.L).refLt
 ·cases ho
theorem memK_lp {d : Dk} {cc : List V} {rowC : Obj} {e : Int} {N : CSt} {rn : Nat} {is : List (List V)} {lp lp' : ALoop} {nx : Nat} {lc : LM} :
  H.put ⟨nx, og (memK d cc rowC e N rn is lp), lc⟩ 1010 (.loop lp') = ⟨nx, og (memK d cc rowC e N rn is lp'), lc⟩ := by
 rw [og_put]; rfl
theorem memK_hc {d : Dk} {cc : List V} {rowC : Obj} {e : Int} {N : CSt} {rn : Nat} {is : List (List V)} {lp : ALoop} {nx : Nat} {lc : LM} (h : 1011 ≤ rn) : HC ⟨nx, og (memK d cc rowC e N rn is lp), lc⟩ 1000 1001 1006 rn d N :=
 ⟨by decide, by decide, by decide, (by show 1000 ≤ rn; omega), by simp; omega, rfl, rfl, rfl, rowAt _ (preK_lt h)⟩
def tmK : TM := [(1, .v (.ptr 1004 0)), (4, .v (.ptr 1005 0)), (5, .v (.ptr 1007 0))]
noncomputable def lpK (st : LoopState) (asC bdC : Code) : ALoop := ⟨st, none, 24, false, tmK, Go.Proofs.Try.f24.ntmps, [51, 52], asC, bdC⟩
def scK : RC := .reg [.mv 52 7]
def scKb : RC := .block 1 (.seq (.reg [.op (.ld (.t 1) none) 53, .op (.nc (.t 53)) 54, .op (.fa (.t 54) 5) 55, .op (.ld (.t 55) none) 56, .mv 7 57, .op (.ia (.t 56) (.t 57) 4) 58, .op (.ld (.t 58) (some 4)) 59, .op (.al [.str [], .str [], .bool false, .int .i64 0]) 8, ⟨0, 0, some (.st (.t 8) (.t 59) 4), [], none, none⟩]) (.seq (.seq (.reg [.op (.ld (.t 4) none) 60, .op (.eq .int false (.t 60) (.c (.int .i64 0))) 61]) (.cond (.t 61) (.dreg [⟨0, 0, some (.ld (.t 5) none), [5], some 62, none⟩, ⟨1, 0, some (.fa (.t 8) 0), [8], some 63, none⟩, ⟨2, 2, some (.ld (.t 63) none), [63], some 64, none⟩, ⟨3, 0, some (.fa (.t 8) 1), [8], some 65, none⟩, ⟨4, 8, some (.ld (.t 65) none), [65], some 66, none⟩] [(⟨5, 30, some (.call (.c (.fn (.func 48) [] [])) [.t 64, .t 66]), [64, 66], some 67, none⟩, []), (⟨6, 63, some (.call (.c (.fn (.func 47) [] [])) [.t 62, .t 67]), [62, 67], some 68, none⟩, []), (⟨7, 127, some (.st (.t 4) (.t 68) 1), [4, 68], none, none⟩, [])] [62, 63, 64, 65, 66, 67, 68]) .skip)) (.seq (.dreg [⟨0, 0, some (.ld (.t 5) none), [5], some 69, none⟩, ⟨1, 0, some (.ld (.t 5) none), [5], some 70, none⟩, ⟨2, 2, some (.nc (.t 70)), [70], some 71, none⟩, ⟨3, 6, some (.fa (.t 71) 5), [71], some 72, none⟩, ⟨4, 14, some (.ld (.t 72) none), [72], some 73, none⟩, ⟨5, 0, some (.fa (.t 8) 0), [8], some 74, none⟩, ⟨6, 32, some (.ld (.t 74) none), [74], some 75, none⟩, ⟨7, 0, some (.fa (.t 8) 1), [8], some 76, none⟩, ⟨8, 128, some (.ld (.t 76) none), [76], some 77, none⟩, ⟨9, 480, some (.bld [.str [], .str [], .bool false, .int .i64 0] [(0, 1), (1, 1), (2, 1), (3, 1)] [(0, .t 75), (1, .t 77)]), [75, 77], some 78, none⟩, ⟨10, 992, some (.bs 4 1 [.str [], .str [], .bool false, .int .i64 0] [(0, .t 78)]), [78], some 79, none⟩] [(⟨11, 2046, some (.app (.t 73) (.t 79) 4 48 [.str [], .str [], .bool false, .int .i64 0]), [73, 79], some 80, none⟩, [⟨12, 4095, some (.nc (.t 69)), [69], some 81, none⟩, ⟨13, 8191, some (.fa (.t 81) 5), [81], some 82, none⟩]), (⟨14, 16383, some (.st (.t 82) (.t 80) 1), [82, 80], none, none⟩, [])] [69, 70, 71, 72, 73, 74, 75, 76, 77, 78, 79, 80, 81, 82]) (.seq (.reg [.op (.ld (.t 4) none) 83, .op (.eq .int false (.t 83) (.c (.int .i64 0))) 84]) (.cond (.t 84) (.dreg [⟨0, 0, some (.ld (.t 5) none), [5], some 85, none⟩, ⟨1, 0, some (.ld (.t 5) none), [5], some 86, none⟩, ⟨2, 2, some (.nc (.t 86)), [86], some 87, none⟩, ⟨3, 6, some (.fa (.t 87) 5), [87], some 88, none⟩, ⟨4, 14, some (.ld (.t 88) none), [88], some 89, none⟩, ⟨5, 30, some (.lenL (.t 89)), [89], some 90, none⟩, ⟨6, 62, some (.bin .sub (.t 90) (.c (.int .i64 1))), [90], some 91, none⟩] [(⟨7, 127, some (.call (.c (.fn (.func 45) [] [])) [.t 85, .c (.int .i64 2), .t 91]), [85, 91], some 92, none⟩, []), (⟨8, 255, some (.st (.t 4) (.t 92) 1), [4, 92], none, none⟩, [])] [85, 86, 87, 88, 89, 90, 91, 92]) .skip)))))
end Go.VM
end
section
/- The cache: laying all anew: a round's walk. -/
set_option maxRecDepth 100000
set_option linter.unusedVariables false
set_option linter.unusedSimpArgs false
namespace Go.VM
open Go.RowKit
def tmKb (j i : Nat) : TM := [(7, .v (.int .i64 i)), (52, .v (.int .i64 i)), (51, .v (.int .i64 j)), (1, .v (.ptr 1004 0)), (4, .v (.ptr 1005 0)), (5, .v (.ptr 1007 0))]
theorem roundK_of {asC bdC : Code} (ha : resC Go.Proofs.Try.prog asC = some scK) (hb : resC Go.Proofs.Try.prog bdC = some scKb) {d d' : Dk} {cc : List V} {rowC : Obj} {e e' : Int} {N N' : CSt} {rn rn' nx nx' j i : Nat} {is : List (List V)} (hn : nx ≤ nx') (h1 : 1011 ≤ rn) (h1' : 1011 ≤ rn') (h2' : rn' < nx') (hcc : Ins (· < nx') cc) (hrc : rowC.In (· < nx')) (his : Inss (fun _ => False) is)
  (hw : WR Go.Proofs.Try.prog [] ⟨Go.Proofs.Try.f24.ntmps, some 1010, 24⟩ scKb (SL.toS ⟨tmKb j i, [], none, nx, memK d cc rowC e N rn is (lpK .busy asC bdC), []⟩) (fun s2 => s2.df = [] ∧ ∃ lc, s2.h = ⟨nx', og (memK d' cc rowC e' N' rn' is (lpK .busy asC bdC)), lc⟩) (fun y s2 => False)) :
  SRound Go.Proofs.Try.prog [] 1010 [.int .i64 j, .int .i64 i] ⟨nx, og (memK d cc rowC e N rn is (lpK .ready asC bdC)), []⟩ (.ret (.bool true)) ⟨nx', og (memK d' cc rowC e' N' rn' is (lpK .ready asC bdC)), []⟩ := by
 refine SRound.listed (j := none) (tm1 := []) (nx1 := 0) (ol1 := []) (lc1 := []) ha hb rfl rfl rfl hn (memK_B h1' h2') (fun c hc => ?_) ?_
 ·by_cases h9 : c = 1009
  ·subst h9; exact .inl rfl
  ·by_cases h10 : c = 1010
   ·subst h10; exact .inl rfl
   ·exact .inr fun o ho => memK_ref h1' h2' hcc hrc his c o h9 h10 ho
 unfold scK
 refine WR.reg (WQ.runS [] 1000 _ _ _ _ rfl (WQ.nilS ?_))
 refine ⟨rfl, rfl, rfl, ?_⟩
 have e1 := memK_lp (d := d) (cc := cc) (rowC := rowC) (e := e) (N := N) (rn := rn) (is := is) (lp := lpK .ready asC bdC) (lp' := lpK .busy asC bdC) (nx := nx) (lc := [])
 have e2 : ∀ h, h = (⟨nx, og (memK d cc rowC e N rn is (lpK .busy asC bdC)), []⟩ : H) → (S.mk (tmKb j i) [] none h) = SL.toS ⟨tmKb j i, [], none, nx, memK d cc rowC e N rn is (lpK .busy asC bdC), []⟩ := by rintro _ rfl; rfl
 have e3 := e2 _ e1
 have hw2 := hw.mono (QN' := fun s2 => (none : Option Code) = none ∧ RndE 1010 (lpK .ready asC bdC) none nx' (memK d' cc rowC e' N' rn' is (lpK .ready asC bdC)) s2) (QX' := fun y s2 => y ≠ .norm ∧ rndJ y = some none ∧ RndE 1010 (lpK .ready asC bdC) none nx' (memK d' cc rowC e' N' rn' is (lpK .ready asC bdC)) s2) (fun s2 ⟨q1, lc, q2⟩ => ⟨rfl, q1, by rw [q2]; rfl, fun c _ => by
  rw [q2]
  have e4 := memK_lp (d := d') (cc := cc) (rowC := rowC) (e := e') (N := N') (rn := rn') (is := is) (lp := lpK .busy asC bdC) (lp' := lpK .ready asC bdC) (nx := nx') (lc := lc)
  exact (congrArg (fun h : H => h.ob c) e4).symm⟩) (fun _ _ q => q.elim)
 refine Eq.mp ?_ hw2
 exact congrArg (fun s => WR Go.Proofs.Try.prog [] ⟨Go.Proofs.Try.f24.ntmps, some 1010, 24⟩ scKb s _ _) e3.symm
end Go.VM
end
section
/- The cache: laying all anew: what a round does. -/
set_option maxRecDepth 100000
set_option linter.unusedVariables false
set_option linter.unusedSimpArgs false
namespace Go.VM
open Go.RowKit
theorem done_le (d : Dk) (w : Wr) : (done d w).1.ws.length = d.ws.length + 1 ∧ (done d w).1.fuse = d.fuse ∧ (done d w).1.a0.length ≤ d.a0.length + w.data.length ∧ (done d w).1.a1.length ≤ d.a1.length + w.data.length := by
 unfold done
 split
 ·split <;> simp
 ·split
  ·split <;> simp
  ·simp
theorem write_ws (d : Dk) (w : Wr) : (write d w).1.ws.length ≤ d.ws.length + 1 := by
 unfold write
 split
 ·simp
 ·split
  ·simp
  ·split
   ·simp
   ·have := (done_le (if 0 < d.fuse then { d with fuse := d.fuse - 1 } else d) w).1
    rw [this]
    split <;> simp
theorem write_fit {d : Dk} {w : Wr} {n : Nat} (f : Fit d (w.data.length + n)) (hws : d.ws.length + 1 ≤ 100000000 := by omega) : Fit (write d w).1 n := by
 obtain ⟨f1, f2, f3, f4⟩ := f
 unfold write
 split
 ·show Fit d n
  exact ⟨by omega, f2, by omega, by omega⟩
 ·split
  ·show Fit d n
   exact ⟨by omega, f2, by omega, by omega⟩
  ·split
   ·exact ⟨by simpa using f1, f2, by simp; omega, by simp; omega⟩
   ·have key : ∀ d1 : Dk, d1.ws.length = d.ws.length → d1.fuse ≤ d.fuse → d1.a0 = d.a0 → d1.a1 = d.a1 → Fit (done d1 w).1 n := by
     intro d1 e1 e2 e3 e4
     obtain ⟨g1, g2, g3, g4⟩ := done_le d1 w
     rw [e3] at g3
     rw [e4] at g4
     exact ⟨by omega, by omega, by omega, by omega⟩
    split
    ·exact key _ rfl (by simp; omega) rfl rfl
    ·exact key _ rfl (Int.le_refl _) rfl rfl
theorem memK_hcp {d d' : Dk} {cc : List V} {rowC : Obj} {e : Int} {N N' : CSt} {rn nx : Nat} {is : List (List V)} {lp : ALoop} {lc : LM} (h : 1011 ≤ rn) :
  hcp ⟨nx, og (memK d cc rowC e N rn is lp), lc⟩ 1000 1001 1006 rn d' N' = ⟨nx, og (memK d' cc rowC e N' rn is lp), lc⟩ := by
 unfold hcp
 rw [og_put, og_put, og_put, og_put]
 have e1 : oset (oset (oset (memK d cc rowC e N rn is lp) 1000 (.cells false (encD d' 1001))) 1001 (.tok d'.ws.length)) 1006 (.cells false (encC 1000 rn N')) = preK d' cc rowC e N' rn is lp ++ [(rn, rowO N.L)] := rfl
 rw [e1, ← osetO_eq (rowSet (rowO N.L) (rowO N'.L) (preK_lt h))]
 rfl
theorem addK {d : Dk} {cc : List V} {rowC : Obj} {e : Int} {N : CSt} {rn nx : Nat} {is : List (List V)} {lp : ALoop} {lc : LM} (s : List Nat) (h : 1011 ≤ rn) (ft : Fit d s.length) (hlen : N.len + s.length ≤ 4000000000) :
  SCall Go.Proofs.Try.prog [] 47 [.ptr 1006 0, .str s] none ⟨nx, og (memK d cc rowC e N rn is lp), lc⟩ (.ret (.int .i64 (addP d N s).2.2)) none ⟨nx, og (memK (addP d N s).1 cc rowC e (addP d N s).2.1 rn is lp), lc⟩ := by
 have := cache_lift0 (addP_core d N s 1003 1004 (by omega) (by omega) ft hlen) (by exact ⟨trivial, trivial⟩) trivial (memK_hc (cc := cc) (rowC := rowC) (e := e) (is := is) (lp := lp) (nx := nx) (lc := lc) h)
 rwa [memK_hcp h] at this
theorem marksK {d : Dk} {cc : List V} {rowC : Obj} {e : Int} {N : CSt} {rn nx : Nat} {is : List (List V)} {lp : ALoop} {lc : LM} (i : Nat) (x : EZ) (h : 1011 ≤ rn) (hi : i < 4000000) (hx : N.L[i]? = some x) (ft : Fit d 5) (hlen : N.len + 5 ≤ 4000000000) (hla : 0 ≤ N.last ∧ N.last ≤ 4000000000) :
  SCall Go.Proofs.Try.prog [] 45 [.ptr 1006 0, .int .i64 2, .int .i64 i] none ⟨nx, og (memK d cc rowC e N rn is lp), lc⟩ (.ret (.int .i64 (marksP d N 2 i).2.2)) none ⟨nx, og (memK (marksP d N 2 i).1 cc rowC e (marksP d N 2 i).2.1 rn is lp), lc⟩ := by
 have := cache_lift0 (marksP_core d N 2 i x 1003 1004 (by omega) (by omega) (by omega) hi hx ft hlen hla) (by exact ⟨trivial, trivial, trivial⟩) trivial (memK_hc (cc := cc) (rowC := rowC) (e := e) (is := is) (lp := lp) (nx := nx) (lc := lc) h)
 rwa [memK_hcp h] at this
def ccS (most bytes root : Int) (len n : Nat) (last : Int) : List V := [.ptr 1000 0, .int .i64 most, .int .i64 bytes, .int .i64 root, .int .i64 (len : Int), .sl 1003 0 n (.op 4), .int .i64 last]
theorem roundK3 {asC bdC : Code} {d : Dk} {cc : List V} {rowC : Obj} {e : Int} {N : CSt} {rn nx : Nat} {is : List (List V)} {lc : LM} {tm : TM} (i : Nat) (x : EZ) (h : 1011 ≤ rn) (hi : i < 4000000) (hl : N.L.length = i + 1) (hx : N.L[i]? = some x) (ft : Fit d 5) (hlen : N.len + 5 ≤ 4000000000) (hla : 0 ≤ N.last ∧ N.last ≤ 4000000000)
  (t4 : tg tm 4 = some (.v (.ptr 1005 0))) (t5 : tg tm 5 = some (.v (.ptr 1007 0))) {QX : X → S → Prop} :
  WR Go.Proofs.Try.prog [] ⟨Go.Proofs.Try.f24.ntmps, some 1010, 24⟩ (.seq (.reg [.op (.ld (.t 4) none) 83, .op (.eq .int false (.t 83) (.c (.int .i64 0))) 84]) (.cond (.t 84) (.dreg [⟨0, 0, some (.ld (.t 5) none), [5], some 85, none⟩, ⟨1, 0, some (.ld (.t 5) none), [5], some 86, none⟩, ⟨2, 2, some (.nc (.t 86)), [86], some 87, none⟩, ⟨3, 6, some (.fa (.t 87) 5), [87], some 88, none⟩, ⟨4, 14, some (.ld (.t 88) none), [88], some 89, none⟩, ⟨5, 30, some (.lenL (.t 89)), [89], some 90, none⟩, ⟨6, 62, some (.bin .sub (.t 90) (.c (.int .i64 1))), [90], some 91, none⟩] [(⟨7, 127, some (.call (.c (.fn (.func 45) [] [])) [.t 85, .c (.int .i64 2), .t 91]), [85, 91], some 92, none⟩, []), (⟨8, 255, some (.st (.t 4) (.t 92) 1), [4, 92], none, none⟩, [])] [85, 86, 87, 88, 89, 90, 91, 92]) .skip))
   (SL.toS ⟨tm, [], none, nx, memK d cc rowC e N rn is (lpK .busy asC bdC), lc⟩)
   (fun s2 => s2.df = [] ∧ ∃ lc', s2.h = ⟨nx, og (if e = 0 then memK (marksP d N 2 i).1 cc rowC (marksP d N 2 i).2.2 (marksP d N 2 i).2.1 rn is (lpK .busy asC bdC) else memK d cc rowC e N rn is (lpK .busy asC bdC)), lc'⟩) QX := by
 have hne : N.L ≠ [] := by intro q; rw [q] at hl; simp at hl
 refine WR.weak (s := SL.toS ⟨[(4, .v (.ptr 1005 0)), (5, .v (.ptr 1007 0))], [], none, nx, memK d cc rowC e N rn is (lpK .busy asC bdC), []⟩) (SW.tellR (.cons t4 (.v (VLe.refl _)) (.cons t5 (.v (VLe.refl _)) .nil)) .nil) ?_
 refine WR.seq (WR.reg (WQ.runS [] 1000 _ _ _ _ rfl (WQ.nilS ?_)))
 by_cases he : e = 0
 ·subst he
  rw [if_pos rfl]
  rw [show decide ((0 : Int) = 0) = true from rfl]
  have hcl : clV rn N.L = .sl rn 0 N.L.length (.op 4) := clV_some hne
  have hm : memK d cc rowC 0 N rn is (lpK .busy asC bdC) = [(1000, .cells false (encD d 1001)), (1001, .tok d.ws.length), (1002, .cells false cc), (1003, rowC), (1004, .cells false [.ptr 1002 0]), (1005, .cells false [.int .i64 0]), (1006, .cells false [.ptr 1000 0, .int .i64 N.most, .int .i64 N.bytes, .int .i64 N.root, .int .i64 (N.len : Int), .sl rn 0 N.L.length (.op 4), .int .i64 N.last]), (1007, .cells false [.ptr 1006 0]), (1008, .cells false [.lst is .unk]), (1009, .dfr (some [])), (1010, .loop (lpK .busy asC bdC))] ++ [(rn, rowO N.L)] := by
   simp only [memK, preK, encC, hcl]
  have mk := marksK (cc := cc) (rowC := rowC) (e := 0) (is := is) (lp := lpK .busy asC bdC) (nx := nx) (lc := []) i x h hi hx ft hlen hla
  rw [hm] at mk ⊢
  refine WR.condT rfl (WR.dreg hmix (DW.runS [] 7 _ _ _ _ _ _ rfl ?_))
  rw [show IntKind.i64.wrap ((N.L.length : Int) - 1) = (i : Int) from by rw [hl, wrap64 (by omega) (by omega)]; omega]
  refine DW.callH (by repeat (first | exact .nil | refine PendR.passM rfl ?_ | refine PendR.sameM rfl ?_ | refine PendR.lightM rfl ?_)) rfl rfl rfl rfl rfl mk .base rfl ?_
  refine DW.stS (by repeat (first | exact .nil | refine PendR.passM rfl ?_ | refine PendR.sameM rfl ?_ | refine PendR.lightM rfl ?_)) rfl rfl rfl rfl ?_
  refine DW.runS [] 1000 _ _ _ _ _ _ rfl ?_
  refine DW.finS (by repeat (first | exact .nil | refine PendR.passM rfl ?_ | refine PendR.sameM rfl ?_ | refine PendR.lightM rfl ?_)) ?_
  exact ⟨rfl, _, rfl⟩
 ·rw [if_neg he, show decide (e = 0) = false from decide_eq_false he]
  refine WR.condF rfl (WR.skip ?_)
  exact ⟨rfl, _, rfl⟩
end Go.VM
end
section
/- The cache: laying all anew: a round, all of it. -/
set_option maxRecDepth 100000
set_option linter.unusedVariables false
set_option linter.unusedSimpArgs false
namespace Go.VM
open Go.RowKit
def scK3 : RC := .seq (.reg [.op (.ld (.t 4) none) 83, .op (.eq .int false (.t 83) (.c (.int .i64 0))) 84]) (.cond (.t 84) (.dreg [⟨0, 0, some (.ld (.t 5) none), [5], some 85, none⟩, ⟨1, 0, some (.ld (.t 5) none), [5], some 86, none⟩, ⟨2, 2, some (.nc (.t 86)), [86], some 87, none⟩, ⟨3, 6, some (.fa (.t 87) 5), [87], some 88, none⟩, ⟨4, 14, some (.ld (.t 88) none), [88], some 89, none⟩, ⟨5, 30, some (.lenL (.t 89)), [89], some 90, none⟩, ⟨6, 62, some (.bin .sub (.t 90) (.c (.int .i64 1))), [90], some 91, none⟩] [(⟨7, 127, some (.call (.c (.fn (.func 45) [] [])) [.t 85, .c (.int .i64 2), .t 91]), [85, 91], some 92, none⟩, []), (⟨8, 255, some (.st (.t 4) (.t 92) 1), [4, 92], none, none⟩, [])] [85, 86, 87, 88, 89, 90, 91, 92]) .skip)
def scK2 : RC := .dreg [⟨0, 0, some (.ld (.t 5) none), [5], some 69, none⟩, ⟨1, 0, some (.ld (.t 5) none), [5], some 70, none⟩, ⟨2, 2, some (.nc (.t 70)), [70], some 71, none⟩, ⟨3, 6, some (.fa (.t 71) 5), [71], some 72, none⟩, ⟨4, 14, some (.ld (.t 72) none), [72], some 73, none⟩, ⟨5, 0, some (.fa (.t 8) 0), [8], some 74, none⟩, ⟨6, 32, some (.ld (.t 74) none), [74], some 75, none⟩, ⟨7, 0, some (.fa (.t 8) 1), [8], some 76, none⟩, ⟨8, 128, some (.ld (.t 76) none), [76], some 77, none⟩, ⟨9, 480, some (.bld [.str [], .str [], .bool false, .int .i64 0] [(0, 1), (1, 1), (2, 1), (3, 1)] [(0, .t 75), (1, .t 77)]), [75, 77], some 78, none⟩, ⟨10, 992, some (.bs 4 1 [.str [], .str [], .bool false, .int .i64 0] [(0, .t 78)]), [78], some 79, none⟩] [(⟨11, 2046, some (.app (.t 73) (.t 79) 4 48 [.str [], .str [], .bool false, .int .i64 0]), [73, 79], some 80, none⟩, [⟨12, 4095, some (.nc (.t 69)), [69], some 81, none⟩, ⟨13, 8191, some (.fa (.t 81) 5), [81], some 82, none⟩]), (⟨14, 16383, some (.st (.t 82) (.t 80) 1), [82, 80], none, none⟩, [])] [69, 70, 71, 72, 73, 74, 75, 76, 77, 78, 79, 80, 81, 82]
theorem roundK2 {asC bdC : Code} {d : Dk} {cc : List V} {rowC : Obj} {e : Int} {N : CSt} {rn nx : Nat} {is : List (List V)} {tm : TM} (x : EZ) (h : 1011 ≤ rn) (hrn : rn < nx) (hl : N.L.length ≤ 100000) (t4 : tg tm 4 = some (.v (.ptr 1005 0))) (t5 : tg tm 5 = some (.v (.ptr 1007 0))) (t8 : tg tm 8 = some (.l 8 0)) {QN : S → Prop} {QX : X → S → Prop}
  (hx : ∀ tm lc, tg tm 4 = some (.v (.ptr 1005 0)) → tg tm 5 = some (.v (.ptr 1007 0)) → QN (SL.toS ⟨tm, [], none, nx + 1, memK d cc rowC e (putN N x) nx is (lpK .busy asC bdC), lc⟩)) :
  WR Go.Proofs.Try.prog [] ⟨Go.Proofs.Try.f24.ntmps, some 1010, 24⟩ scK2 (SL.toS ⟨tm, [], none, nx, memK d cc rowC e N rn is (lpK .busy asC bdC), [(8, encZ x)]⟩) QN QX := by
 refine WR.weak (s := SL.toS ⟨[(4, .v (.ptr 1005 0)), (5, .v (.ptr 1007 0)), (8, .l 8 0)], [], none, nx, memK d cc rowC e N rn is (lpK .busy asC bdC), [(8, encZ x)]⟩) (SW.tellR (.cons t4 (.v (VLe.refl _)) (.cons t5 (.v (VLe.refl _)) (.cons t8 (.l _ _ rfl) .nil))) (.cons rfl (.inl rfl) .nil)) ?_
 unfold scK2
 refine WR.dreg hmix (DW.runS [] 11 _ _ _ _ _ _ rfl ?_)
 refine DW.doesS (by repeat (first | exact .nil | refine PendR.passM rfl ?_ | refine PendR.sameM rfl ?_ | refine PendR.lightM rfl ?_)) rfl (cacheApp (p := preK d cc rowC e N rn is (lpK .busy asC bdC)) (preK_lt h) (by show 1000 ≤ rn; omega) hrn N.L ⟨x.k, x.v, false, 0⟩ (by omega) rfl rfl) rfl ?_
 refine DW.runS [] 2 _ _ _ _ _ _ rfl ?_
 refine DW.stS (by repeat (first | exact .nil | refine PendR.passM rfl ?_ | refine PendR.sameM rfl ?_ | refine PendR.lightM rfl ?_)) rfl rfl rfl rfl ?_
 refine DW.runS [] 1000 _ _ _ _ _ _ rfl ?_
 refine DW.finS (by repeat (first | exact .nil | refine PendR.passM rfl ?_ | refine PendR.sameM rfl ?_ | refine PendR.lightM rfl ?_)) ?_
 have hm : memK d cc rowC e (putN N x) nx is (lpK .busy asC bdC) = [(1000, .cells false (encD d 1001)), (1001, .tok d.ws.length), (1002, .cells false cc), (1003, rowC), (1004, .cells false [.ptr 1002 0]), (1005, .cells false [.int .i64 e]), (1006, .cells false [.ptr 1000 0, .int .i64 N.most, .int .i64 N.bytes, .int .i64 N.root, .int .i64 (N.len : Int), .sl nx 0 (N.L.length + 1) (.op 4), .int .i64 N.last]), (1007, .cells false [.ptr 1006 0]), (1008, .cells false [.lst is .unk]), (1009, .dfr (some [])), (1010, .loop (lpK .busy asC bdC))] ++ [(nx, .cells true (flatZ (N.L ++ [⟨x.k, x.v, false, 0⟩])))] := by
  have hne : N.L ++ [(⟨x.k, x.v, false, 0⟩ : EZ)] ≠ [] := by simp
  simp only [memK, preK, encC, putN, clV_some hne, rowO_some hne, List.length_append, List.length_cons, List.length_nil]
 rw [hm] at hx
 exact hx _ _ rfl rfl
end Go.VM
end
section
/- The cache: laying all anew: the round, and the loop. -/
set_option maxRecDepth 100000
set_option linter.unusedVariables false
set_option linter.unusedSimpArgs false
namespace Go.VM
open Go.RowKit
theorem addP_fit {d : Dk} {C : CSt} {s : List Nat} {n : Nat} (f : Fit d (s.length + n)) (hws : d.ws.length + 1 ≤ 100000000) : Fit (addP d C s).1 n := write_fit (w := ⟨1, C.root, s⟩) f hws
theorem addP_ws (d : Dk) (C : CSt) (s : List Nat) : (addP d C s).1.ws.length ≤ d.ws.length + 1 := write_ws _ _
theorem addP_L (d : Dk) (C : CSt) (s : List Nat) : (addP d C s).2.1.L = C.L ∧ (addP d C s).2.1.last = C.last ∧ (addP d C s).2.1.len ≤ C.len + s.length := by
 unfold addP
 simp only
 split <;> simp
theorem scKb_eq : scKb = .block 1 (.seq (.reg [.op (.ld (.t 1) none) 53, .op (.nc (.t 53)) 54, .op (.fa (.t 54) 5) 55, .op (.ld (.t 55) none) 56, .mv 7 57, .op (.ia (.t 56) (.t 57) 4) 58, .op (.ld (.t 58) (some 4)) 59, .op (.al [.str [], .str [], .bool false, .int .i64 0]) 8, ⟨0, 0, some (.st (.t 8) (.t 59) 4), [], none, none⟩]) (.seq (.seq (.reg [.op (.ld (.t 4) none) 60, .op (.eq .int false (.t 60) (.c (.int .i64 0))) 61]) (.cond (.t 61) (.dreg [⟨0, 0, some (.ld (.t 5) none), [5], some 62, none⟩, ⟨1, 0, some (.fa (.t 8) 0), [8], some 63, none⟩, ⟨2, 2, some (.ld (.t 63) none), [63], some 64, none⟩, ⟨3, 0, some (.fa (.t 8) 1), [8], some 65, none⟩, ⟨4, 8, some (.ld (.t 65) none), [65], some 66, none⟩] [(⟨5, 30, some (.call (.c (.fn (.func 48) [] [])) [.t 64, .t 66]), [64, 66], some 67, none⟩, []), (⟨6, 63, some (.call (.c (.fn (.func 47) [] [])) [.t 62, .t 67]), [62, 67], some 68, none⟩, []), (⟨7, 127, some (.st (.t 4) (.t 68) 1), [4, 68], none, none⟩, [])] [62, 63, 64, 65, 66, 67, 68]) .skip)) (.seq scK2 scK3))) := rfl
theorem putN_get (N : CSt) (x : EZ) : (putN N x).L[N.L.length]? = some ⟨x.k, x.v, false, 0⟩ := by simp [putN]
theorem roundK {asC bdC : Code} (ha : resC Go.Proofs.Try.prog asC = some scK) (hb : resC Go.Proofs.Try.prog bdC = some scKb) {d : Dk} {most bytes root : Int} {len : Nat} {last : Int} {L : List EZ} {e : Int} {N : CSt} {rn nx j i : Nat} {is : List (List V)} (x : EZ) (h1 : 1011 ≤ rn) (hrn : rn < nx) (hx : L[i]? = some x) (hxs : x.k.length ≤ 1000000 ∧ x.v.length ≤ 1000000) (his : Inss (fun _ => False) is)
  (ft : Fit d (14 + x.k.length + x.v.length)) (hws : d.ws.length + 2 ≤ 100000000) (hlen : N.len + 14 + x.k.length + x.v.length ≤ 4000000000) (hNl : N.L.length ≤ 100000) (hla : 0 ≤ N.last ∧ N.last ≤ 4000000000) :
  SRound Go.Proofs.Try.prog [] 1010 [.int .i64 j, .int .i64 i] ⟨nx, og (memK d (ccS most bytes root len L.length last) (.cells true (flatZ L)) e N rn is (lpK .ready asC bdC)), []⟩ (.ret (.bool true)) ⟨nx + 1, og (memK (cstep (d, e, N) x).1 (ccS most bytes root len L.length last) (.cells true (flatZ L)) (cstep (d, e, N) x).2.1 (cstep (d, e, N) x).2.2 nx is (lpK .ready asC bdC)), []⟩ := by
 have hil := (List.getElem?_eq_some_iff.1 hx).1
 refine roundK_of ha hb (Nat.le_succ _) h1 (by omega) (Nat.lt_succ_self _) ⟨(by show 1000 < nx + 1; omega), trivial, trivial, trivial, trivial, (by show 1003 < nx + 1; omega), trivial, trivial⟩ (flatZ_in _) his ?_
 rw [scKb_eq]
 have hrow : og (memK d (ccS most bytes root len L.length last) (.cells true (flatZ L)) e N rn is (lpK .busy asC bdC)) 1003 = some (.cells true (flatZ L)) := rfl
 refine WR.block (WR.seq (WR.reg (WQ.runS [] 5 _ _ _ _ rfl ?_)))
 refine WQ.lightS rfl rfl rfl (rowIa rfl rfl hil) rfl ?_
 refine WQ.lightS rfl rfl rfl (atLd4 rfl hrow hx) rfl ?_
 refine WQ.runS [] 1000 _ _ _ _ rfl (WQ.nilS ?_)
 have hrest : ∀ (d1 : Dk) (e1 : Int) (N1 : CSt) (tm : TM), cstep (d, e, N) x = (if e1 = 0 then ((marksP d1 (putN N1 x) 2 N1.L.length).1, (marksP d1 (putN N1 x) 2 N1.L.length).2.2, (marksP d1 (putN N1 x) 2 N1.L.length).2.1) else (d1, e1, putN N1 x)) → Fit d1 5 → N1.len + 5 ≤ 4000000000 → N1.L = N.L → N1.last = N.last → tg tm 4 = some (.v (.ptr 1005 0)) → tg tm 5 = some (.v (.ptr 1007 0)) → tg tm 8 = some (.l 8 0) → ∀ QX : X → S → Prop,
   WR Go.Proofs.Try.prog [] ⟨Go.Proofs.Try.f24.ntmps, some 1010, 24⟩ (.seq scK2 scK3) (SL.toS ⟨tm, [], none, nx, memK d1 (ccS most bytes root len L.length last) (.cells true (flatZ L)) e1 N1 rn is (lpK .busy asC bdC), [(8, encZ x)]⟩)
    (fun s2 => s2.df = [] ∧ ∃ lc, s2.h = ⟨nx + 1, og (memK (cstep (d, e, N) x).1 (ccS most bytes root len L.length last) (.cells true (flatZ L)) (cstep (d, e, N) x).2.1 (cstep (d, e, N) x).2.2 nx is (lpK .busy asC bdC)), lc⟩) QX := by
  intro d1 e1 N1 tm hc ft1 hl1 hL1 hla1 t4 t5 t8 QX
  refine WR.seq (roundK2 x h1 hrn (by rw [hL1]; exact hNl) t4 t5 t8 (fun tm2 lc2 g4 g5 => ?_))
  have := roundK3 (asC := asC) (bdC := bdC) (d := d1) (cc := ccS most bytes root len L.length last) (rowC := .cells true (flatZ L)) (e := e1) (N := putN N1 x) (rn := nx) (nx := nx + 1) (is := is) (lc := lc2) (tm := tm2) N1.L.length ⟨x.k, x.v, false, 0⟩ (by omega) (by rw [hL1]; omega) (by simp [putN]) (putN_get N1 x) ft1 hl1 (by show 0 ≤ N1.last ∧ N1.last ≤ _; rw [hla1]; exact hla) g4 g5 (QX := QX)
  refine WR.mono this (fun s' ⟨q1, lc', q2⟩ => ⟨q1, lc', ?_⟩) (fun _ _ q => q)
  rw [q2, hc]
  split <;> rfl
 refine WR.seq (WR.seq (WR.reg (WQ.runS [] 1000 _ _ _ _ rfl (WQ.nilS ?_))))
 have hel := entryB_len x.k x.v
 by_cases he : e = 0
 ·subst he
  rw [show decide ((0 : Int) = 0) = true from rfl]
  have ad := addK (cc := ccS most bytes root len L.length last) (rowC := .cells true (flatZ L)) (e := 0) (is := is) (lp := lpK .busy asC bdC) (nx := nx) (lc := [(8, encZ x)]) (d := d) (N := N) (rn := rn) (entryB x.k x.v) h1 ⟨ft.ws, ft.fuse, by have := ft.a0; omega, by have := ft.a1; omega⟩ (by omega)
  have hf5 : Fit (addP d N (entryB x.k x.v)).1 5 := addP_fit ⟨ft.ws, ft.fuse, by have := ft.a0; omega, by have := ft.a1; omega⟩ (by omega)
  obtain ⟨q1, q2, q3⟩ := addP_L d N (entryB x.k x.v)
  have hcs : cstep (d, 0, N) x = (if (addP d N (entryB x.k x.v)).2.2 = 0 then ((marksP (addP d N (entryB x.k x.v)).1 (putN (addP d N (entryB x.k x.v)).2.1 x) 2 (addP d N (entryB x.k x.v)).2.1.L.length).1, (marksP (addP d N (entryB x.k x.v)).1 (putN (addP d N (entryB x.k x.v)).2.1 x) 2 (addP d N (entryB x.k x.v)).2.1.L.length).2.2, (marksP (addP d N (entryB x.k x.v)).1 (putN (addP d N (entryB x.k x.v)).2.1 x) 2 (addP d N (entryB x.k x.v)).2.1.L.length).2.1) else ((addP d N (entryB x.k x.v)).1, (addP d N (entryB x.k x.v)).2.2, putN (addP d N (entryB x.k x.v)).2.1 x)) := by
   simp only [cstep, if_true]
  have hr2 := hrest (addP d N (entryB x.k x.v)).1 (addP d N (entryB x.k x.v)).2.2 (addP d N (entryB x.k x.v)).2.1
  generalize addP d N (entryB x.k x.v) = z at *
  obtain ⟨d1, N1, e1⟩ := z
  refine WR.condT rfl (WR.dreg hmix (DW.runS [] 5 _ _ _ _ _ _ rfl ?_))
  refine DW.callH (by repeat (first | exact .nil | refine PendR.passM rfl ?_ | refine PendR.sameM rfl ?_ | refine PendR.lightM rfl ?_)) rfl rfl rfl rfl rfl (entry_spec x.k x.v hxs.1 hxs.2 _) .base rfl ?_
  refine DW.callH (by repeat (first | exact .nil | refine PendR.passM rfl ?_ | refine PendR.sameM rfl ?_ | refine PendR.lightM rfl ?_)) rfl rfl rfl rfl rfl ad .base rfl ?_
  refine DW.stS (by repeat (first | exact .nil | refine PendR.passM rfl ?_ | refine PendR.sameM rfl ?_ | refine PendR.lightM rfl ?_)) rfl rfl rfl rfl ?_
  refine DW.runS [] 1000 _ _ _ _ _ _ rfl ?_
  refine DW.finS (by repeat (first | exact .nil | refine PendR.passM rfl ?_ | refine PendR.sameM rfl ?_ | refine PendR.lightM rfl ?_)) ?_
  exact hr2 _ hcs hf5 (by have q4 : N1.len ≤ N.len + (entryB x.k x.v).length := q3; rw [hel] at q4; omega) q1 q2 rfl rfl rfl _
 ·rw [show decide (e = 0) = false from decide_eq_false he]
  refine WR.condF rfl (WR.skip ?_)
  exact hrest d e N _ (by simp only [cstep, if_neg he]) ⟨ft.ws, ft.fuse, by have := ft.a0; omega, by have := ft.a1; omega⟩ (by omega) rfl rfl rfl rfl rfl _
end Go.VM
end
section
/- The cache: laying all anew: the loop. -/
set_option maxRecDepth 100000
set_option linter.unusedVariables false
set_option linter.unusedSimpArgs false
namespace Go.VM
open Go.RowKit
theorem marksP_facts (d : Dk) (C : CSt) (kind i : Nat) : (marksP d C kind i).1.ws.length ≤ d.ws.length + 1 ∧ (marksP d C kind i).2.1.L.length = C.L.length ∧ (marksP d C kind i).2.1.len ≤ C.len + 5 ∧ (0 ≤ C.last → 0 ≤ (marksP d C kind i).2.1.last) ∧ (marksP d C kind i).2.1.last ≤ C.last + 1 := by
 have h1 := addP_ws d C (markB kind i)
 have h2 := addP_L d C (markB kind i)
 have hb : (markB kind i).length = 5 := rfl
 have e : (marksP d C kind i).2.1 = if (addP d C (markB kind i)).2.2 = 0 then { (addP d C (markB kind i)).2.1 with last := C.last + 1, L := setMark C.L i (C.last + 1) } else C := rfl
 have hs : (setMark C.L i (C.last + 1)).length = C.L.length := by unfold setMark; split <;> simp
 have h3 := h2.2.2
 rw [hb] at h3
 refine ⟨h1, ?_⟩
 rw [e]
 by_cases hz : (addP d C (markB kind i)).2.2 = 0
 ·rw [if_pos hz]
  exact ⟨hs, h3, fun q => by show 0 ≤ C.last + 1; omega, Int.le_refl _⟩
 ·rw [if_neg hz]
  exact ⟨rfl, by omega, id, by omega⟩
theorem marksP_fit {d : Dk} {C : CSt} {kind i n : Nat} (f : Fit d (5 + n)) (hws : d.ws.length + 1 ≤ 100000000) : Fit (marksP d C kind i).1 n := addP_fit (s := markB kind i) f hws
def wgt (x : EZ) : Nat := 14 + x.k.length + x.v.length
structure KFit (d : Dk) (N : CSt) (n c : Nat) : Prop where
 ft : Fit d n
 ws : d.ws.length + 2 * c ≤ 100000000
 len : N.len + n ≤ 4000000000
 L : N.L.length + c ≤ 100000
 la0 : 0 ≤ N.last
 la : N.last + (c : Int) ≤ 4000000000
theorem cstep_fit {d : Dk} {e : Int} {N : CSt} {x : EZ} {n c : Nat} (k : KFit d N (wgt x + n) (c + 1)) : KFit (cstep (d, e, N) x).1 (cstep (d, e, N) x).2.2 n c := by
 obtain ⟨ft, ws, len, L, la0, la⟩ := k
 have hel := entryB_len x.k x.v
 have hw : wgt x = (entryB x.k x.v).length + 5 := by unfold wgt; rw [hel]; omega
 rw [hw] at ft len
 have key : ∀ (d1 : Dk) (e1 : Int) (N1 : CSt), Fit d1 (5 + n) → d1.ws.length ≤ d.ws.length + 1 → N1.len + 5 + n ≤ 4000000000 → N1.L.length = N.L.length → N1.last = N.last →
   KFit (if e1 = 0 then ((marksP d1 (putN N1 x) 2 N1.L.length).1, (marksP d1 (putN N1 x) 2 N1.L.length).2.2, (marksP d1 (putN N1 x) 2 N1.L.length).2.1) else (d1, e1, putN N1 x) : Dk × Int × CSt).1 (if e1 = 0 then ((marksP d1 (putN N1 x) 2 N1.L.length).1, (marksP d1 (putN N1 x) 2 N1.L.length).2.2, (marksP d1 (putN N1 x) 2 N1.L.length).2.1) else (d1, e1, putN N1 x) : Dk × Int × CSt).2.2 n c := by
  intro d1 e1 N1 f1 w1 l1 L1 la1
  have hpl : (putN N1 x).L.length = N1.L.length + 1 := by simp [putN]
  have hpn : (putN N1 x).len = N1.len := rfl
  have hpa : (putN N1 x).last = N1.last := rfl
  have hcc : ((c + 1 : Nat) : Int) = (c : Int) + 1 := rfl
  by_cases h1 : e1 = 0
  ·rw [if_pos h1]
   obtain ⟨g1, g2, g3, g4, g5⟩ := marksP_facts d1 (putN N1 x) 2 N1.L.length
   have gf := marksP_fit (C := putN N1 x) (kind := 2) (i := N1.L.length) f1 (by omega)
   rw [hpa, la1] at g4 g5
   generalize marksP d1 (putN N1 x) 2 N1.L.length = z at *
   obtain ⟨z1, z2, z3⟩ := z
   simp only at g1 g2 g3 g4 g5 gf ⊢
   exact ⟨gf, by omega, by omega, by omega, g4 la0, by omega⟩
  ·rw [if_neg h1]
   exact ⟨(show Fit d1 n from ⟨f1.ws, f1.fuse, by have := f1.a0; omega, by have := f1.a1; omega⟩), by show d1.ws.length + _ ≤ _; omega, by show N1.len + _ ≤ _; omega, by show (putN N1 x).L.length + _ ≤ _; omega, by show 0 ≤ (putN N1 x).last; rw [hpa, la1]; exact la0, by show (putN N1 x).last + _ ≤ _; rw [hpa, la1]; omega⟩
 by_cases he : e = 0
 ·have hcs : cstep (d, e, N) x = (if (addP d N (entryB x.k x.v)).2.2 = 0 then ((marksP (addP d N (entryB x.k x.v)).1 (putN (addP d N (entryB x.k x.v)).2.1 x) 2 (addP d N (entryB x.k x.v)).2.1.L.length).1, (marksP (addP d N (entryB x.k x.v)).1 (putN (addP d N (entryB x.k x.v)).2.1 x) 2 (addP d N (entryB x.k x.v)).2.1.L.length).2.2, (marksP (addP d N (entryB x.k x.v)).1 (putN (addP d N (entryB x.k x.v)).2.1 x) 2 (addP d N (entryB x.k x.v)).2.1.L.length).2.1) else ((addP d N (entryB x.k x.v)).1, (addP d N (entryB x.k x.v)).2.2, putN (addP d N (entryB x.k x.v)).2.1 x)) := by
   simp only [cstep, if_pos he]
  rw [hcs]
  obtain ⟨q1, q2, q3⟩ := addP_L d N (entryB x.k x.v)
  exact key _ _ _ (addP_fit ⟨ft.ws, ft.fuse, by have := ft.a0; omega, by have := ft.a1; omega⟩ (by omega)) (addP_ws _ _ _) (by omega) (by rw [q1]) q2
 ·have hcs : cstep (d, e, N) x = (if e = 0 then ((marksP d (putN N x) 2 N.L.length).1, (marksP d (putN N x) 2 N.L.length).2.2, (marksP d (putN N x) 2 N.L.length).2.1) else (d, e, putN N x)) := by
   simp only [cstep, if_neg he]
  rw [hcs]
  exact key d e N ⟨ft.ws, ft.fuse, by have := ft.a0; omega, by have := ft.a1; omega⟩ (by omega) (by omega) rfl rfl
def wgts : List EZ → Nat
 | [] => 0
 | x :: r => wgt x + wgts r
def iTmK (j : Int) : TM := [(0, .v (.fn (.yield 1010) [] [])), (1, .v (.ptr 1008 0)), (3, .v (.int .i64 j))]
theorem iterK_loop {asC bdC : Code} (ha : resC Go.Proofs.Try.prog asC = some scK) (hb : resC Go.Proofs.Try.prog bdC = some scKb) {most bytes root : Int} {len : Nat} {last : Int} (L : List EZ) (idx : List Nat) (hin : ∀ i ∈ idx, i < L.length) (hxs : ∀ x ∈ L, x.k.length ≤ 1000000 ∧ x.v.length ≤ 1000000) (hid : idx.length ≤ 100000) {QN : S → Prop} {QX : X → S → Prop} : ∀ (j : Nat) (d : Dk) (e : Int) (N : CSt) (rn : Nat), j ≤ idx.length → 1011 ≤ rn → KFit d N (wgts (pickF L (idx.take j).reverse)) j →
  (∀ tm, QX (.exit 0) (SL.toS ⟨tm, [], none, rn + 1 + j, memK ((pickF L (idx.take j).reverse).foldl cstep (d, e, N)).1 (ccS most bytes root len L.length last) (.cells true (flatZ L)) ((pickF L (idx.take j).reverse).foldl cstep (d, e, N)).2.1 ((pickF L (idx.take j).reverse).foldl cstep (d, e, N)).2.2 (rn + j) (idx.map kcell) (lpK .ready asC bdC), []⟩)) →
  WLr Go.Proofs.Try.prog [] ⟨Go.Proofs.Try.f73.ntmps, none, 73⟩ rc73_L1 (SL.toS ⟨iTmK ((j : Int) - 1), [], none, rn + 1, memK d (ccS most bytes root len L.length last) (.cells true (flatZ L)) e N rn (idx.map kcell) (lpK .ready asC bdC), []⟩) QN QX := by
 intro j
 induction j with
 | zero =>
  intro d e N rn hj hrn kf hx
  unfold rc73_L1
  refine WLr.of ?_
  refine WR.seq (WR.seq (WR.reg (WQ.runS [] 1000 _ _ _ _ rfl (WQ.nilS ?_))))
  refine WR.condF rfl (WR.exit ?_)
  exact hx _
 | succ j ih =>
  intro d e N rn hj hrn kf hx
  obtain ⟨i, hi⟩ : ∃ i, idx[j]? = some i := ⟨_, List.getElem?_eq_getElem (by omega)⟩
  have hiL := hin i (List.mem_of_getElem? hi)
  obtain ⟨x, hxe⟩ : ∃ x, L[i]? = some x := ⟨_, List.getElem?_eq_getElem hiL⟩
  have g0 : (idx.map kcell)[j]? = some (kcell i) := by rw [List.getElem?_map, hi]; rfl
  have ht : pickF L (idx.take (j + 1)).reverse = x :: pickF L (idx.take j).reverse := by
   rw [List.take_add_one, hi]
   simp [pickF, hxe]
  rw [ht] at kf hx
  simp only [List.foldl_cons] at hx
  have hxl := hxs x (List.mem_of_getElem? hxe)
  have kf : KFit d N (wgt x + wgts (pickF L (idx.take j).reverse)) (j + 1) := kf
  have kf' := cstep_fit (e := e) kf
  have hwx : wgt x = 14 + x.k.length + x.v.length := rfl
  have hrow : og (memK d (ccS most bytes root len L.length last) (.cells true (flatZ L)) e N rn (idx.map kcell) (lpK .ready asC bdC)) 1008 = some (.cells false [.lst (idx.map kcell) .unk]) := rfl
  have rk := roundK (asC := asC) (bdC := bdC) ha hb (d := d) (most := most) (bytes := bytes) (root := root) (len := len) (last := last) (L := L) (e := e) (N := N) (rn := rn) (nx := rn + 1) (j := j) (i := i) (is := idx.map kcell) x hrn (Nat.lt_succ_self _) hxe hxl (kcells_in _) ⟨kf.ft.ws, kf.ft.fuse, by have := kf.ft.a0; omega, by have := kf.ft.a1; omega⟩ (by have := kf.ws; omega) (by have := kf.len; omega) (by have := kf.L; omega) ⟨kf.la0, by have := kf.la; omega⟩
  have ih' := ih (cstep (d, e, N) x).1 (cstep (d, e, N) x).2.1 (cstep (d, e, N) x).2.2 (rn + 1) (by omega) (by omega) kf'
  have e1 : ((cstep (d, e, N) x).1, (cstep (d, e, N) x).2.1, (cstep (d, e, N) x).2.2) = cstep (d, e, N) x := rfl
  rw [e1, show rn + 1 + 1 + j = rn + 1 + (j + 1) by omega, show rn + 1 + j = rn + (j + 1) by omega] at ih'
  have ih2 := ih' hx
  rw [show (((j + 1 : Nat) : Int) - 1) = (j : Int) from by omega]
  unfold rc73_L1
  refine WLr.of ?_
  refine WR.seq (WR.seq (WR.reg (WQ.runS [] 1000 _ _ _ _ rfl (WQ.nilS ?_))))
  rw [show decide ((j : Int) ≥ 0) = true from decide_eq_true (by omega)]
  refine WR.condT rfl (WR.skip ?_)
  refine WR.seq (WR.block (WR.seq (WR.reg (WQ.runS [] 4 _ _ _ _ rfl ?_))))
  refine WQ.lightS rfl rfl rfl (ia_at rfl rfl g0 rfl) rfl (WQ.runS [] 1 _ _ _ _ rfl ?_)
  refine WQ.yieldS rfl rfl rfl rfl rk rfl (WQ.runS [] 1000 _ _ _ _ rfl (WQ.nilS ?_))
  refine WR.condF rfl (WR.skip ?_)
  unfold rc73_J1
  repeat (first | refine WR.seq ?_ | refine WR.block ?_ | refine WR.scope ?_ | refine WR.skip ?_ | refine WR.exit ?_ | refine WR.condT rfl ?_ | refine WR.condF rfl ?_ | refine WR.reg (WQ.runS [] 1000 _ _ _ _ rfl ?_) | refine WQ.nilS ?_ | refine WR.dreg hmix (DW.runS [] 1000 _ _ _ _ _ _ rfl ?_))
  rw [show IntKind.i64.wrap ((j : Int) - 1) = (j : Int) - 1 from wrap64 (by omega) (by omega)]
  refine WIr.again (WLr.weak ?_ ih2)
  refine SW.tellR ?_ ?_
  ·repeat (first | exact .nil | refine .cons rfl (.v (VLe.refl _)) ?_ | refine .cons rfl (.l _ _ rfl) ?_ | refine .cons rfl (.v (VLe.unk _ _)) ?_)
  ·repeat (first | exact .nil | refine .cons rfl (.inl rfl) ?_)
end Go.VM
end
