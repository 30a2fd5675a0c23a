/- laid for this seat: VlWords VlAll VlAll2 VlAll3 VlAll4 -/
import Derived.Test.YtipiffhjilidlaaDoorVg1
import Derived.Test.YtipiffhjilidlaaDoorVmS
section
/- Tokens: the words of the language, as a map. -/
set_option maxRecDepth 100000
set_option linter.unusedVariables false
set_option linter.unusedSimpArgs false
namespace Go.VM
open Go.RowKit
def aTh : List Nat := [112, 97, 99, 107, 97, 103, 101, 32, 105, 109, 112, 111, 114, 116, 32, 116, 121, 112, 101, 32, 115, 116, 114, 117, 99, 116, 32, 105, 110, 116, 101, 114, 102, 97, 99, 101, 32, 102, 117, 110, 99, 32, 108, 101, 116, 32, 105, 102, 32, 101, 108, 115, 101, 32, 102, 111, 114, 32, 114, 101, 116, 117, 114, 110, 32, 110, 101, 119, 32, 116, 114, 117, 101, 32, 102, 97, 108, 115, 101, 32, 105, 110, 116, 32, 98, 111, 111, 108, 32, 116, 101, 120, 116]
def qB : Obj := .cells false (jS .u8 yT)
def tOl : OL := [(0, qB)]
def mOl : OL := [(0, qB), (1000, .map [])]
def fOl : OL := [(0, qB), (1000, .map []), (1001, .cells false (lS.map V.str))]
def gOl : OL := [(0, qB), (1000, .map tA), (1001, .cells false (lS.map V.str))]
def aJp (d : Nat) (r : X × SL) : Option Nat × Option TV × Nat × OL × LM × List AD × Option AMode := ((match r.1 with | .ret => some 0 | .norm => some 1 | _ => none), tg r.2.tm d, r.2.nxt, r.2.ol, r.2.lc, r.2.df, r.2.u)
theorem aNg {d n : Nat} {o : Option (X × SL)} {v : Option TV} {ol : OL} {lc : LM} {df : List AD} {u : Option AMode} (h : o.map (aJp d) = some (some 0, v, n, ol, lc, df, u)) : ∃ tm, o = some (.ret, ⟨tm, df, u, n, ol, lc⟩) ∧ tg tm d = v := by
 cases o with
 | none => cases h
 | some r =>
  obtain ⟨x, tm, df', u', nx, ol', lc'⟩ := r
  simp only [Option.map_some, aJp, Option.some.injEq, Prod.mk.injEq] at h
  obtain ⟨h1, h2, h3, h4, h5, h6, h7⟩ := h
  subst h3; subst h4; subst h5; subst h6; subst h7
  refine ⟨tm, ?_, h2⟩
  cases x <;> first | rfl | cases h1
theorem aJk {d n : Nat} {o : Option (X × SL)} {v : Option TV} {ol : OL} {lc : LM} {df : List AD} {u : Option AMode} (h : o.map (aJp d) = some (some 1, v, n, ol, lc, df, u)) : ∃ tm, o = some (.norm, ⟨tm, df, u, n, ol, lc⟩) ∧ tg tm d = v := by
 cases o with
 | none => cases h
 | some r =>
  obtain ⟨x, tm, df', u', nx, ol', lc'⟩ := r
  simp only [Option.map_some, aJp, Option.some.injEq, Prod.mk.injEq] at h
  obtain ⟨h1, h2, h3, h4, h5, h6, h7⟩ := h
  subst h3; subst h4; subst h5; subst h6; subst h7
  refine ⟨tm, ?_, h2⟩
  cases x <;> first | rfl | cases h1
theorem aFd : (exe [0] Go.Proofs.Tryd.f39.ntmps [] [0, 3, 4, 5, 6, 9, 10, 11, 12] 3000 aTt ⟨jP 0 [.str aTh], [], none, 1001, mOl, []⟩).map (aJp 2) = some (some 0, some (.v (.sl 1001 0 17 (.ex 17))), 1002, fOl, [], [], none) := by kernel_rfl
theorem aAm {D : Nat → Prop} : ∀ l : List (List Nat), Ins D (l.map V.str)
 | [] => trivial
 | _ :: l => ⟨trivial, aAm l⟩
theorem qD {D : Nat → Prop} : qB.In D := pX
theorem aSt {v : V} {nx : Nat} {ol : OL} {tm : TM} {fn : Func} {d : Nat} (hr : fn.results.toList = [.tmp d]) (ht : tg tm d = some (.v v)) : lX Go.Proofs.Tryd.prog fn v nx ol (SL.toS ⟨tm, [], none, nx, ol, []⟩) := by
 refine ⟨rfl, rfl, ⟨[v], ?_, VLe.refl _⟩, fun _ _ => rfl⟩
 rw [hr]
 simp only [pA, SL.toS, ht]
theorem aCd : SCall Go.Proofs.Tryd.prog [0] 39 [.str aTh] none ⟨1001, og mOl, []⟩ (.ret (.sl 1001 0 17 (.ex 17))) none ⟨1002, og fOl, []⟩ := by
 refine SCall.listed (fn := Go.Proofs.Tryd.f39) (by kernel_rfl) aZz (by kernel_rfl) (by kernel_rfl) ((by decide)) rfl ((by exact ⟨qD, trivial, aAm _, trivial⟩)) (by show (1001 : Nat) < 1002; decide) ?_
 unfold aTt
 obtain ⟨tm, h1, h2⟩ := aNg aFd
 refine WR.exe 3000 [] [0, 3, 4, 5, 6, 9, 10, 11, 12] h1 ?_
 show lX Go.Proofs.Tryd.prog _ _ _ _ _
 exact aSt rfl h2
theorem aDt : (exe [0] Go.Proofs.Tryd.f29.ntmps [] [1, 5, 6, 7] 3000 (.block 0 (.loop aHp)) ⟨[(1, .v (.map 1000)), (5, .v (.sl 1001 0 17 (.ex 17))), (6, .v (.int .i64 17)), (7, .v (.int .i64 0))], [], none, 1002, fOl, []⟩).map (aJp 1) = some (some 1, some (.v (.map 1000)), 1002, gOl, [], [], none) := by kernel_rfl
theorem aUf {D : Nat → Prop} : fR D gOl := ⟨qD, qI _, aAm _, trivial⟩
theorem aBd : SCall Go.Proofs.Tryd.prog [0] 29 [] none ⟨1000, og tOl, []⟩ (.ret (.map 1000)) none ⟨1002, og gOl, []⟩ := by
 refine SCall.listed (fn := Go.Proofs.Tryd.f29) (by kernel_rfl) aZh (by kernel_rfl) (by kernel_rfl) ((by decide)) rfl (aUf) (by show (1000 : Nat) < 1002; decide) ?_
 unfold aXb
 refine WR.seq (WR.reg (WQ.aA [] 1000 _ _ _ _ rfl (WQ.aB ?_)))
 refine WR.seq (WR.reg (WQ.aA [] 1000 _ _ _ _ rfl (WQ.aB ?_)))
 refine WR.seq (WR.seq (WR.reg ?_))
 refine WQ.aE rfl rfl rfl rfl rfl aCd .base rfl (WQ.aA [] 1000 _ _ _ _ rfl (WQ.aB ?_))
 obtain ⟨tm, h1, h2⟩ := aJk aDt
 refine WR.weak (s := SL.toS ⟨[(1, .v (.map 1000)), (5, .v (.sl 1001 0 17 (.ex 17))), (6, .v (.int .i64 17)), (7, .v (.int .i64 0))], [], none, 1002, fOl, []⟩) ?_ (WR.exe 3000 [] [1, 5, 6, 7] h1 ?_)
 ·refine SW.bF ?_ ?_
  ·repeat (first | exact .nil | refine .cons rfl (.v (VLe.refl _)) ?_ | refine .cons rfl (.l _ _ rfl) ?_ | refine .cons rfl (.v (VLe.unk _ _)) ?_)
  ·repeat (first | exact .nil | refine .cons rfl (.inl rfl) ?_)
 show WR Go.Proofs.Tryd.prog [0] _ aAv _ _ _
 refine WR.weak (s := SL.toS ⟨[(1, .v (.map 1000))], [], none, 1002, gOl, []⟩) (SW.bF (.cons h2 (.v (VLe.refl _)) .nil) .nil) ?_
 unfold aAv
 repeat (first | refine WR.seq ?_ | refine WR.block ?_ | refine WR.scope ?_ | refine WR.skip ?_ | refine WR.exit ?_ | refine WR.aK rfl ?_ | refine WR.aG rfl ?_ | refine WR.reg (WQ.aA [] 1000 _ _ _ _ rfl ?_) | refine WQ.aB ?_ | refine WR.aW bE (DW.aA [] 1000 _ _ _ _ _ _ rfl ?_))
 refine WR.ret ⟨rfl, rfl, ⟨_, rfl, VLe.refl _⟩, fun b _ => rfl⟩
def sR : OL := [(1000, .map tA)]
theorem aEe : SCall Go.Proofs.Tryd.prog [0] 29 [] none ⟨aF, og [(0, qB)], []⟩ (.ret (.map 1000)) none ⟨aF + 2, og ((0, qB) :: sR), []⟩ := by
 refine aBd.drop rfl rfl (fun b o h => ?_) (fun b hb => ?_)
 ·show og gOl b = some o
  have h : og ((0, qB) :: sR) b = some o := h
  simp only [sR, gOl, aT] at h ⊢
  split at h
  ·rename_i e; rw [if_pos e]; exact h
  ·rename_i e; rw [if_neg e]
   split at h
   ·rename_i e; rw [if_pos e]; exact h
   ·cases h
 ·have hb : b < 1000 := hb
  show og ((0, qB) :: sR) b = og gOl b
  simp only [sR, gOl, aT]
  split
  ·rfl
  ·rw [if_neg (by omega), if_neg (by omega), if_neg (by omega)]
theorem vF (ρ : Nat → Nat) : Obj.ren ρ (.map tA) = .map tA := by
 have go : ∀ l : List (List Nat), (l.map aFh).map (fun e => (e.1.ren ρ, e.2.ren ρ)) = l.map aFh := by
  intro l
  induction l with
  | nil => rfl
  | cons a l ih => simp only [List.map_cons, ih]; rfl
 simp only [Obj.ren]
 first | exact congrArg Obj.map (go lS) | rfl
theorem aEf (h : H) (ht : h.ob 0 = some qB) (hf : ∀ b, h.nxt ≤ b → h.ob b = none) (hg : aF ≤ h.nxt) : SCall Go.Proofs.Tryd.prog [0] 29 [] none h (.ret (.map h.nxt)) none { (h.new (.map tA)) with nxt := h.nxt + 2 } := by
 have r0 : ρL [] h.nxt 1000 = h.nxt := (mA (bs := []) (i := 1000) (Nat.le_refl _)).trans (by simp [aF])
 refine SCall.aTs (n := 2) (news := sR) (g := 0) rfl (by decide) aEe (fun i hi => ?_) trivial (by show (1000 : Nat) < _; decide) (by exact ⟨qI _, trivial⟩) ht ?_ rfl rfl (fun i hi => ?_) (fun b hb => ?_)
 ·simp only [sR, aT] at hi
  split at hi
  ·rename_i e; subst e; exact ⟨Nat.le_refl _, by decide⟩
  ·cases hi
 ·show V.map (ρL [] h.nxt 1000) = _
  rw [r0]
 ·show (if h.nxt + i = h.nxt then some (Obj.map tA) else h.ob (h.nxt + i)) = _
  simp only [sR, aT]
  by_cases hi0 : i = 0
  ·subst hi0
   rw [if_pos (by omega), if_pos (by decide)]
   exact (congrArg some (vF _)).symm
  ·rw [if_neg (by omega), if_neg (by show ¬ 1000 + i = 1000; omega), hf _ (by omega)]; rfl
 ·show (if b = h.nxt then _ else h.ob b) = _
  rw [if_neg (by omega)]
end Go.VM
end
section
/- Tokens: all of a text: rounds of the loop. -/
set_option maxRecDepth 100000
set_option linter.unusedVariables false
set_option linter.unusedSimpArgs false
namespace Go.VM
open Go.RowKit
def scA : RC := .seq (.reg [.op (.al [.int .i64 0, .int .i64 0, .int .i64 0, .str []]) 6, ⟨0, 0, some (.st (.t 6) (.t 10) 4), [], none, none⟩]) (.reg [.op (.al [.int .i64 0, .int .i64 0]) 7, ⟨0, 0, some (.st (.t 7) (.t 11) 2), [], none, none⟩])
def scB : RC := .block 1 (.seq (.seq (.reg [.op (.ld (.t 7) (some 2)) 12, .op (.bld [.int .i64 0, .int .i64 0] [(0, 1), (1, 1)] []) 13, .op (.eq (.st [(0, .int), (1, .int)]) true (.t 12) (.t 13)) 14]) (.cond (.t 14) (.seq (.aW [⟨0, 0, some (.ld (.t 7) (some 2)), [7], some 15, none⟩] [(⟨1, 0, some (.st (.t 4) (.c (.lst [] (.ex 0))) 1), [4], none, none⟩, []), (⟨2, 3, some (.st (.t 5) (.t 15) 2), [5, 15], none, none⟩, [])] [15]) (.exit 0)) .skip)) (.reg [.op (.ld (.t 4) none) 16, .op (.ld (.t 6) (some 4)) 17, .op (.bs 4 1 [.int .i64 0, .int .i64 0, .int .i64 0, .str []] [(0, .t 17)]) 18, .op (.app (.t 16) (.t 18) 4 40 [.int .i64 0, .int .i64 0, .int .i64 0, .str []]) 19, ⟨0, 0, some (.st (.t 4) (.t 19) 1), [], none, none⟩]))
def tmA : TM := [(4, .v (.ptr 1000 0)), (5, .v (.ptr 1001 0))]
noncomputable def lpS (st : LoopState) (j : Option Code) (asC bdC : Code) : ALoop := ⟨st, j, 12, false, tmA, Go.Proofs.Tryd.f12.ntmps, [10, 11], asC, bdC⟩
def dg (a c : Int) : List V := [.int .i64 a, .int .i64 c]
def iP (lv : V) (wr : List V) (s : List Nat) (lp : ALoop) (row : OL) : OL :=
 (0, qB) :: (1000, .cells false [lv]) :: (1001, .cells false wr) :: (1002, .cells false [.str s]) :: (1003, .dfr (some [])) :: (1004, .loop lp) :: (1005, .map tA) :: row
def lvT : List Tk → V
 | [] => .lst [] (.ex 0)
 | t :: l => .lst ((t :: l).map gT) (.tk 1007)
def lU : List Tk → OL
 | [] => []
 | t :: l => [(1007, .tok (t :: l).length)]
def nxT : List Tk → Nat
 | [] => 1007
 | _ :: _ => 1008
theorem aEp {D : Nat → Prop} : ∀ l : List Tk, Inss D (l.map gT)
 | [] => trivial
 | _ :: l => ⟨⟨trivial, trivial, trivial, trivial, trivial⟩, aEp l⟩
theorem aDm {N : Nat} {l : ALoop} (h : ∀ t v, tg l.tmps t = some v → ∃ x, v = .v x ∧ x.In (· < N)) : gA N (.loop l) := by
 intro E p w ⟨L, h1, h2, h3, h4, h5, h6, h7, h8⟩
 refine ⟨L, h1, h2, h3, h4, h5, h6, h7, h8.1, fun t v hv => ?_⟩
 obtain ⟨x, rfl, hx⟩ := h t v hv
 obtain ⟨x', a1, a2⟩ := h8.2 t _ hv
 cases a2 with
 | v _ _ a3 => exact ⟨x', a1, .v _ _ (hx.bG E x' a3)⟩
theorem aFi {lv : V} {wr : List V} {s : List Nat} {lp : ALoop} (l : List Tk) : olB (nxT l) (iP lv wr s lp (lU l)) = true := by
 cases l <;> rfl
theorem aNv {lv : V} {wr : List V} {s : List Nat} {lp lp' : ALoop} {row : OL} {nx : Nat} {lc : LM} : H.put ⟨nx, og (iP lv wr s lp row), lc⟩ 1004 (.loop lp') = ⟨nx, og (iP lv wr s lp' row), lc⟩ := by
 rw [oR]; rfl
theorem uI {lv : V} {wr : List V} {s : List Nat} {lp : ALoop} {row : OL} {nx : Nat} (hn : 1007 ≤ nx) (hlv : lv.In (· < nx)) (hw : Ins (· < nx) wr) (hrow : fR (· < nx) row) (hlp : lp.tmps = tmA) :
  ∀ c o, c ≠ 1003 → og (iP lv wr s lp row) c = some o → gA nx o := by
 intro c o h4 ho
 by_cases h5 : c = 1004
 ·subst h5
  cases ho
  refine aDm (fun t v hv => ?_)
  rw [hlp] at hv
  have := aEn hv
  simp only [tmA, List.mem_cons, List.not_mem_nil, or_false, Prod.mk.injEq] at this
  rcases this with ⟨_, rfl⟩ | ⟨_, rfl⟩
  ·exact ⟨_, rfl, show 1000 < nx by omega⟩
  ·exact ⟨_, rfl, show 1001 < nx by omega⟩
 ·simp only [iP, aT] at ho
  split at ho
  ·cases ho; exact Obj.In.bG (o := .cells false _) qD
  split at ho
  ·cases ho; exact Obj.In.bG (o := .cells false _) ⟨hlv, trivial⟩
  split at ho
  ·cases ho; exact Obj.In.bG (o := .cells false _) hw
  split at ho
  ·cases ho; exact Obj.In.bG (o := .cells false _) ⟨trivial, trivial⟩
  split at ho
  ·cases ho; exact Obj.In.bG (o := .map _) (qI _)
  exact (dL hrow c o ho).bG
def tmR (t : Tk) (a c : Int) : TM := [(7, .l 7 0), (6, .l 6 0), (11, .v (.agg (dg a c))), (10, .v (.agg (gT t))), (4, .v (.ptr 1000 0)), (5, .v (.ptr 1001 0))]
def lcR (t : Tk) (a c : Int) : LM := [(6, gT t), (7, dg a c)]
theorem tT {nx : Nat} : ∀ l : List Tk, fR (· < nx) (lU l)
 | [] => trivial
 | _ :: _ => ⟨trivial, trivial⟩
theorem aDg {asC bdC : Code} (ha : aJ Go.Proofs.Tryd.prog asC = some scA) (hb : aJ Go.Proofs.Tryd.prog bdC = some scB) {t : Tk} {a c : Int} {lv : V} {wr : List V} {s : List Nat} {row ol' : OL} {nx nx' : Nat} {j : Option Code} (hn : nx ≤ nx') (hol : olB nx' ol' = true)
  (hin : ∀ b, b < nx' → (og ol' b = og (iP lv wr s (lpS .ready none asC bdC) row) b ∨ ∀ o, og ol' b = some o → gA nx' o))
  (hw : WR Go.Proofs.Tryd.prog [0] ⟨Go.Proofs.Tryd.f12.ntmps, some 1004, 12⟩ scB (SL.toS ⟨tmR t a c, [], none, nx, iP lv wr s (lpS .busy none asC bdC) row, lcR t a c⟩) (fun s2 => j = none ∧ aJd 1004 (lpS .ready none asC bdC) none nx' ol' s2) (fun y s2 => y ≠ .norm ∧ aRq y = some j ∧ aJd 1004 (lpS .ready none asC bdC) j nx' ol' s2)) :
  SRound Go.Proofs.Tryd.prog [0] 1004 [.agg (gT t), .agg (dg a c)] ⟨nx, og (iP lv wr s (lpS .ready none asC bdC) row), []⟩ (.ret (.bool j.isNone)) ⟨nx', og ol', []⟩ := by
 refine SRound.listed (tm1 := []) (nx1 := 0) (ol1 := []) (lc1 := []) ha hb rfl rfl rfl hn hol hin ?_
 unfold scA
 repeat (first | refine WR.seq ?_ | refine WR.block ?_ | refine WR.scope ?_ | refine WR.skip ?_ | refine WR.exit ?_ | refine WR.aK rfl ?_ | refine WR.aG rfl ?_ | refine WR.reg (WQ.aA [] 1000 _ _ _ _ rfl ?_) | refine WQ.aB ?_ | refine WR.aW bE (DW.aA [] 1000 _ _ _ _ _ _ rfl ?_))
 refine ⟨rfl, rfl, rfl, ?_⟩
 have e := aNv (lv := lv) (wr := wr) (s := s) (lp := lpS .ready none asC bdC) (lp' := lpS .busy none asC bdC) (row := row) (nx := nx) (lc := lcR t a c)
 have e2 : ∀ h, h = (⟨nx, og (iP lv wr s (lpS .busy none asC bdC) row), lcR t a c⟩ : H) → (S.mk (tmR t a c) [] none h) = SL.toS ⟨tmR t a c, [], none, nx, iP lv wr s (lpS .busy none asC bdC) row, lcR t a c⟩ := by rintro _ rfl; rfl
 have e3 := e2 _ e
 refine Eq.mp ?_ hw
 exact congrArg (fun s => WR Go.Proofs.Tryd.prog [0] ⟨Go.Proofs.Tryd.f12.ntmps, some 1004, 12⟩ scB s _ _) e3.symm
theorem tX {asC bdC : Code} {lv : V} {wr : List V} {s : List Nat} {row : OL} {nx' : Nat} {tm : TM} {lc : LM} (j : Option Code) : aJd 1004 (lpS .ready none asC bdC) j nx' (iP lv wr s (lpS (if j.isNone then .ready else .done) j asC bdC) row) (SL.toS ⟨tm, [], none, nx', iP lv wr s (lpS .busy none asC bdC) row, lc⟩) := by
 refine ⟨rfl, rfl, fun c _ => ?_⟩
 have e := aNv (lv := lv) (wr := wr) (s := s) (lp := lpS .busy none asC bdC) (lp' := lpS (if j.isNone then .ready else .done) j asC bdC) (row := row) (nx := nx') (lc := lc)
 exact (congrArg (fun h : H => h.ob c) e).symm
theorem aMl {lv lv' : V} {wr wr' : List V} {s : List Nat} {lp lp' : ALoop} {row row' : OL} {nx' : Nat} (hn : 1007 ≤ nx') (hlv : lv'.In (· < nx')) (hw : Ins (· < nx') wr') (hrow : fR (· < nx') row') (hlp : lp'.tmps = tmA) :
  ∀ c, c < nx' → (og (iP lv' wr' s lp' row') c = og (iP lv wr s lp row) c ∨ ∀ o, og (iP lv' wr' s lp' row') c = some o → gA nx' o) := by
 intro c _
 by_cases h : c = 1003
 ·subst h; exact .inl rfl
 ·exact .inr fun o ho => uI hn hlv hw hrow hlp c o h ho
theorem rG (l : List Tk) : 1007 ≤ nxT l := by
 cases l with
 | nil => exact Nat.le_refl _
 | cons _ _ => show 1007 ≤ 1008; decide
theorem aSm (l : List Tk) (t : Tk) : nxT (l ++ [t]) = 1008 := by cases l <;> rfl
theorem aVm (l : List Tk) : nxT l ≤ 1008 := by
 cases l with
 | nil => show 1007 ≤ 1008; decide
 | cons _ _ => exact Nat.le_refl _
theorem aMj (l : List Tk) : (lvT l).In (· < nxT l) := by
 cases l with
 | nil => exact ⟨trivial, trivial⟩
 | cons t l => exact ⟨aEp _, (by show 1007 < 1008; decide), by decide⟩
theorem wY {asC bdC : Code} (ha : aJ Go.Proofs.Tryd.prog asC = some scA) (hb : aJ Go.Proofs.Tryd.prog bdC = some scB) (l : List Tk) (hl : l.length ≤ 4000) (t : Tk) (wr : List V) (hwr : ∀ n, Ins (· < n) wr) (s : List Nat) :
  SRound Go.Proofs.Tryd.prog [0] 1004 [.agg (gT t), .agg (dg 0 0)] ⟨nxT l, og (iP (lvT l) wr s (lpS .ready none asC bdC) (lU l)), []⟩ (.ret (.bool true)) ⟨nxT (l ++ [t]), og (iP (lvT (l ++ [t])) wr s (lpS .ready none asC bdC) (lU (l ++ [t]))), []⟩ := by
 refine aDg (j := none) ha hb (by rw [aSm]; exact aVm l) (aFi (l ++ [t])) (aMl (rG _) (aMj _) (hwr _) (tT _) rfl) ?_
 cases l with
 | nil =>
  unfold scB
  refine WR.block (WR.seq (WR.seq (WR.reg (WQ.aA [] 1000 _ _ _ _ rfl (WQ.aB (WR.aG rfl (WR.skip ?_)))))))
  refine WR.reg (WQ.aA [] 3 _ _ _ _ rfl ?_)
  refine WQ.iH rfl (yM (n2 := 1) (es2 := [gT t]) rfl rfl (Nat.zero_lt_one) (by simp) (by simp [gT]) (by show 40 * 1 ≤ lim; decide) rfl rfl rfl rfl) rfl ?_
  refine WQ.aA [] 1000 _ _ _ _ rfl (WQ.aB ?_)
  exact ⟨rfl, tX (lv := lvT [t]) (row := lU [t]) none⟩
 | cons x l =>
  unfold scB
  refine WR.block (WR.seq (WR.seq (WR.reg (WQ.aA [] 1000 _ _ _ _ rfl (WQ.aB (WR.aG rfl (WR.skip ?_)))))))
  refine WR.reg (WQ.aA [] 3 _ _ _ _ rfl ?_)
  refine WQ.iH rfl (aAr (n := (x :: l).length) (n2 := (x :: l ++ [t]).length) (es2 := (x :: l ++ [t]).map gT) rfl rfl rfl (List.length_map ..).symm ?_ ?_ ?_ rfl ?_ ?_ rfl) rfl ?_
  ·simp [gT]
  ·simp [gT]
  ·simp only [List.length_map, List.length_cons, List.length_nil] at hl ⊢; unfold lim; omega
  ·simp [gT, V.bM]
  ·simp
  refine WQ.aA [] 1000 _ _ _ _ rfl (WQ.aB ?_)
  exact ⟨rfl, tX (lv := lvT (x :: l ++ [t])) (row := lU (x :: l ++ [t])) none⟩
theorem aLq {asC bdC : Code} (ha : aJ Go.Proofs.Tryd.prog asC = some scA) (hb : aJ Go.Proofs.Tryd.prog bdC = some scB) (l : List Tk) (t : Tk) (a c : Nat) (hc : c ≠ 0) (wr : List V) (hwr : wr = dg 0 0) (s : List Nat) :
  SRound Go.Proofs.Tryd.prog [0] 1004 [.agg (gT t), .agg (dg a c)] ⟨nxT l, og (iP (lvT l) wr s (lpS .ready none asC bdC) (lU l)), []⟩ (.ret (.bool false)) ⟨nxT l, og (iP (.lst [] (.ex 0)) (dg a c) s (lpS .done (some (.exit 0)) asC bdC) (lU l)), []⟩ := by
 subst hwr
 refine aDg (j := some (.exit 0)) ha hb (Nat.le_refl _) (aFi l) (aMl (rG _) ⟨trivial, trivial⟩ ⟨trivial, trivial, trivial⟩ (tT _) rfl) ?_
 unfold scB
 refine WR.block (WR.seq (WR.seq (WR.reg (WQ.aA [] 1000 _ _ _ _ rfl (WQ.aB ?_)))))
 refine WR.aK (show _ = some (V.bool true) from ?_) ?_
 ·show some (V.bool (!(decide ((a : Int) = 0) && (decide ((c : Int) = 0) && true)))) = _
  rw [show decide ((c : Int) = 0) = false from decide_eq_false (by omega), Bool.false_and, Bool.and_false]; rfl
 cases l with
 | nil =>
  refine WR.seq (WR.aW bE (DW.aA [] 1000 _ _ _ _ _ _ rfl ?_))
  refine DW.stS (by repeat (first | exact .nil | refine PendR.aI rfl ?_ | refine PendR.aH rfl ?_ | refine PendR.aD rfl ?_)) rfl rfl rfl rfl (DW.aA [] 1000 _ _ _ _ _ _ rfl ?_)
  refine DW.stS (by repeat (first | exact .nil | refine PendR.aI rfl ?_ | refine PendR.aH rfl ?_ | refine PendR.aD rfl ?_)) rfl rfl rfl rfl (DW.aA [] 1000 _ _ _ _ _ _ rfl ?_)
  refine DW.dN (by repeat (first | exact .nil | refine PendR.aI rfl ?_ | refine PendR.aH rfl ?_ | refine PendR.aD rfl ?_)) (WR.exit ?_)
  exact ⟨(fun h => by cases h), rfl, tX (lv := .lst [] (.ex 0)) (row := lU []) (some (.exit 0))⟩
 | cons x l =>
  refine WR.seq (WR.aW bE (DW.aA [] 1000 _ _ _ _ _ _ rfl ?_))
  refine DW.stS (by repeat (first | exact .nil | refine PendR.aI rfl ?_ | refine PendR.aH rfl ?_ | refine PendR.aD rfl ?_)) rfl rfl rfl rfl (DW.aA [] 1000 _ _ _ _ _ _ rfl ?_)
  refine DW.stS (by repeat (first | exact .nil | refine PendR.aI rfl ?_ | refine PendR.aH rfl ?_ | refine PendR.aD rfl ?_)) rfl rfl rfl rfl (DW.aA [] 1000 _ _ _ _ _ _ rfl ?_)
  refine DW.dN (by repeat (first | exact .nil | refine PendR.aI rfl ?_ | refine PendR.aH rfl ?_ | refine PendR.aD rfl ?_)) (WR.exit ?_)
  exact ⟨(fun h => by cases h), rfl, tX (lv := .lst [] (.ex 0)) (row := lU (x :: l)) (some (.exit 0))⟩
end Go.VM
end
section
/- Tokens: all of a text: one by one. -/
set_option maxRecDepth 100000
set_option linter.unusedVariables false
set_option linter.unusedSimpArgs false
namespace Go.VM
open Go.RowKit
def aFg (s : List Nat) (i c n : Nat) : Tk × Nat := ((dR s i c).1, if n ≥ 4000 then 6 else (dR s i c).2)
def kP (s : List Nat) : Tk := ⟨0, s.length, s.length, []⟩
def lZ (s : List Nat) : Nat → Nat → List Tk → List Tk × Nat × Nat
 | 0, _, l => (l, 0, 0)
 | m + 1, i, l => match s[i]? with
  | none => (l ++ [kP s], 0, 0)
  | some c => match aFg s i c l.length with
   | (t, 0) => lZ s m (eW s (s.length + 1) t.e) (l ++ [{ t with text := (s.drop i).take (t.e - i) }])
   | (_, w + 1) => (l, i, w + 1)
theorem qR {p : Nat → Bool} {s : List Nat} {i c : Nat} (hc : s[i]? = some c) (h : p c = true) : 1 ≤ aP p (s.drop i) := by
 have hi := (List.getElem?_eq_some_iff.1 hc).1
 rw [List.drop_eq_getElem_cons hi]
 have : s[i] = c := by rw [List.getElem?_eq_getElem hi] at hc; exact Option.some.inj hc
 rw [this, aP, h]
 simp only
 omega
theorem aCx {s : List Nat} {i c : Nat} (hc : s[i]? = some c) (h : (dR s i c).2 = 0) : i < (dR s i c).1.e ∧ (dR s i c).1.e ≤ s.length ∧ (dR s i c).1.text = [] := by
 have hi := (List.getElem?_eq_some_iff.1 hc).1
 have le : ∀ p, aP p (s.drop i) ≤ s.length - i := fun p => by have := cI p (s.drop i); rwa [List.length_drop] at this
 cases hL : eR c with
 | true =>
  rw [iD hL] at h ⊢
  have h1 := qR (p := iW) hc (by unfold iW; rw [hL]; rfl)
  have h2 := le iW
  exact ⟨by simp only; omega, by simp only; omega, rfl⟩
 | false =>
  cases hD : dD c with
  | true =>
   rw [jB hL hD] at h ⊢
   have h1 := qR (p := dD) hc hD
   have h2 := le dD
   exact ⟨by simp only; omega, by simp only; omega, rfl⟩
  | false =>
   by_cases h34 : c = 34
   ·rw [kM hL hD h34] at h ⊢
    unfold sU at h ⊢
    cases hb : wI s i with
    | true => rw [hb] at h; cases h
    | false =>
     rw [hb] at h
     unfold wI at hb
     simp only [Bool.or_eq_false_iff] at hb
     cases hq : s[tC s i]? with
     | none => rw [hq] at hb; cases hb.1
     | some x =>
      have hlt := (List.getElem?_eq_some_iff.1 hq).1
      have : i + 1 ≤ tC s i := by unfold tC; omega
      exact ⟨by simp only; omega, by simp only; omega, rfl⟩
   ·cases hp : dM (s.drop i) [61, 61] || dM (s.drop i) [38, 38] with
    | true =>
     rw [mS hL hD h34 hp] at h ⊢
     have : 2 ≤ (s.drop i).length := by
      cases h1 : dM (s.drop i) [61, 61] with
      | true => exact tF h1
      | false => rw [h1, Bool.false_or] at hp; exact tF hp
     rw [List.length_drop] at this
     exact ⟨by simp only; omega, by simp only; omega, rfl⟩
    | false =>
     rw [jH hL hD h34 hp] at h ⊢
     exact ⟨by simp only; omega, by simp only; omega, rfl⟩
theorem qJ (s : List Nat) : ∀ (n i : Nat), i ≤ eW s n i
 | 0, i => Nat.le_refl _
 | n + 1, i => by
  rw [eW]
  split
  ·have := qJ s n (i + aP aN (s.drop i) + aP cR (s.drop (i + aP aN (s.drop i)))); omega
  ·omega
theorem mP (s : List Nat) : ∀ (n i : Nat), i ≤ s.length → eW s n i ≤ s.length
 | 0, i, h => h
 | n + 1, i, h => by
  have c1 := cI aN (s.drop i)
  rw [List.length_drop] at c1
  have c2 := cI cR (s.drop (i + aP aN (s.drop i)))
  rw [List.length_drop] at c2
  rw [eW]
  split
  ·exact mP s n _ (by omega)
  ·omega
def tmI (i n : Nat) : TM := [(0, .v (.fn (.yield 1004) [] [])), (1, .v (.ptr 1002 0)), (3, .v (.map 1005)), (4, .v (.int .i64 n)), (5, .v (.int .i64 i))]
def tmJ (i n : Nat) : TM := (6, .l 6 0) :: tmI i n
noncomputable def aIq (l : List Tk) (s : List Nat) (lp : ALoop) : OL := iP (lvT l) (dg 0 0) s lp (lU l)
theorem aGp {a c : Int} (n : Nat) : Ins (· < n) (dg a c) := ⟨trivial, trivial, trivial⟩
theorem aNc (s : List Nat) (h8 : ∀ c ∈ s, c < 256) (hl : s.length < big) (i c M : Nat) (hc : s[i]? = some c) (h : H) (hM : aF ≤ M) (hm : h.ob M = some (.map tA)) :
  SCall Go.Proofs.Tryd.prog [] 31 [.str s, .int .i64 i, .map M] none h (.ret (mJ (dR s i c))) none h := by
 have r0 : ρL [M] h.nxt 1000 = M := vG (bs := [M]) (i := 0) rfl
 refine SCall.aDv (n := 0) [M] rfl (aEc s h8 hl i c hc) (by simp) (by simpa using hM) (fun j => ?_) rfl (fun j b o hj ho => ?_) aAu (by exact ⟨trivial, trivial, (by show (1000 : Nat) < 1001; decide), trivial⟩) (by exact nD _) aAu ?_ (V.sG (D := fun _ => False) (fun _ q => q.elim) (nD _)) rfl rfl (fun j hj => ?_) (fun b hb => rfl)
 ·show (og wOl j).isSome = true ↔ 1000 ≤ j ∧ j < 1001
  simp only [wOl, aT]
  split
  ·rename_i e; subst e; simp
  ·rename_i e; simp [og]; omega
 ·cases j with
  | zero =>
   cases hj
   cases ho
   rw [hm, vF]
  | succ j => simp at hj
 ·show [V.str s, V.int .i64 i, V.map (ρL [M] h.nxt 1000)] = _
  rw [r0]
 ·have : j = 0 := by have : j < 1 := hj; omega
  subst this
  show h.ob (ρL [M] h.nxt 1000) = (some (Obj.map tA)).map _
  rw [r0, hm]
  exact (congrArg some (vF _)).symm
end Go.VM
end
section
/- Tokens: the iterator. -/
set_option maxRecDepth 100000
set_option linter.unusedVariables false
set_option linter.unusedSimpArgs false
namespace Go.VM
open Go.RowKit
theorem aKv {nx : Nat} {ol : OL} {lc : LM} (h0 : og ol 0 = some qB) (hb : olB nx ol = true) (hg : aF ≤ nx) : SCall Go.Proofs.Tryd.prog [0] 29 [] none ⟨nx, og ol, lc⟩ (.ret (.map nx)) none ⟨nx + 2, og (oset ol nx (.map tA)), lc⟩ := by
 have := aEf ⟨nx, og ol, lc⟩ h0 (fun b hb' => cV hb b hb') hg
 rw [mN] at this
 exact this
theorem aMp {asC bdC : Code} (ha : aJ Go.Proofs.Tryd.prog asC = some scA) (hb : aJ Go.Proofs.Tryd.prog bdC = some scB) (s : List Nat) (h8 : ∀ c ∈ s, c < 256) (hl : s.length < big) (R : List Tk × Nat × Nat) {QN : S → Prop} {QX : X → S → Prop}
  (h0 : ∀ tm l i, R = (l ++ [kP s], 0, 0) → l.length ≤ 4000 → TellT tm [] (tmI i l.length) → QX (.exit 0) (SL.toS ⟨tm, [], none, nxT l, aIq l s (lpS .ready none asC bdC), []⟩))
  (h1 : ∀ tm lc l a c, R = (l, a, c + 1) → QX .ret (SL.toS ⟨tm, [], none, nxT l, iP (.lst [] (.ex 0)) (dg a (c + 1 : Nat)) s (lpS .done (some (.exit 0)) asC bdC) (lU l), lc⟩)) :
  ∀ (m i : Nat) (l : List Tk), s.length < i + m → i ≤ s.length → l.length ≤ 4000 → R = lZ s m i l →
  WLr Go.Proofs.Tryd.prog [0] ⟨Go.Proofs.Tryd.f28.ntmps, none, 28⟩ zW (SL.toS ⟨tmI i l.length, [], none, nxT l, aIq l s (lpS .ready none asC bdC), []⟩) QN QX := by
 intro m
 induction m with
 | zero => intro i l h; omega
 | succ m ih =>
  intro i l hm hi hl4 hR
  rw [lZ] at hR
  unfold zW
  refine WLr.of ?_
  refine WR.seq (WR.seq (WR.reg (WQ.aA [] 1000 _ _ _ _ rfl (WQ.aB ?_))))
  cases hc : s[i]? with
  | none =>
   rw [hc] at hR
   have : s.length ≤ i := List.getElem?_eq_none_iff.1 hc
   refine WR.aG (show _ = some (V.bool false) from ?_) (WR.exit (h0 _ l i hR hl4 ?_))
   ·show some (V.bool (decide ((i : Int) < (s.length : Int)))) = _
    rw [decide_eq_false (by omega)]
   ·repeat (first | exact .nil | refine .cons rfl (.v (VLe.refl _)) ?_)
  | some c =>
   rw [hc] at hR
   dsimp only at hR
   have hlt := (List.getElem?_eq_some_iff.1 hc).1
   refine WR.aK (show _ = some (V.bool true) from ?_) (WR.skip ?_)
   ·show some (V.bool (decide ((i : Int) < (s.length : Int)))) = _
    rw [decide_eq_true (by omega)]
   have tk := aNc s h8 hl i c 1005 hc ⟨nxT l, og (aIq l s (lpS .ready none asC bdC)), []⟩ (by decide) rfl
   have hpos := aCx hc
   have hW : aFg s i c l.length = ((dR s i c).1, if l.length ≥ 4000 then 6 else (dR s i c).2) := rfl
   generalize dR s i c = T at tk hpos hW
   obtain ⟨⟨tkd, tka, tke, tkx⟩, w⟩ := T
   refine WR.seq (WR.block (WR.seq (WR.reg (WQ.aA [] 3 _ _ _ _ rfl ?_))))
   refine WQ.aE rfl rfl rfl rfl rfl tk.more .base rfl (WQ.aA [] 1000 _ _ _ _ rfl (WQ.aB ?_))
   refine WR.seq (WR.seq (WR.reg (WQ.aA [] 2 _ _ _ _ rfl (WQ.aB ?_))))
   have bad : ∀ (tm : TM) (wx : Nat), TellT tm [(6, gT ⟨tkd, tka, tke, tkx⟩)] ((7, .v (.int .i64 (wx + 1 : Nat))) :: tmJ i l.length) → R = (l, i, wx + 1) → ∀ QN2 QX2, (∀ st, QX .ret st → QX2 .ret st) →
     WR Go.Proofs.Tryd.prog [0] ⟨Go.Proofs.Tryd.f28.ntmps, none, 28⟩ tQ (SL.toS ⟨tm, [], none, nxT l, aIq l s (lpS .ready none asC bdC), [(6, gT ⟨tkd, tka, tke, tkx⟩)]⟩) QN2 QX2 := by
    intro tm wx ht hRx QN2 QX2 hq
    refine WR.weak (SW.bF ht (.cons rfl (.inl rfl) .nil)) ?_
    unfold tQ
    refine WR.seq (WR.seq (WR.reg (WQ.aA [] 1000 _ _ _ _ rfl (WQ.aB ?_))))
    refine WR.aK (show _ = some (V.bool true) from ?_) ?_
    ·show some (V.bool (!decide (((wx + 1 : Nat) : Int) = 0))) = _
     rw [decide_eq_false (by omega)]; rfl
    refine WR.seq (WR.reg (WQ.aA [] 5 _ _ _ _ rfl ?_))
    refine WQ.aFk rfl rfl rfl rfl ((aLq ha hb l ⟨tkd, tka, tke, tkx⟩ i (wx + 1) (by omega) (dg 0 0) rfl s).fD _) rfl (WQ.aA [] 1000 _ _ _ _ rfl (WQ.aB ?_))
    exact WR.ret (hq _ (h1 _ _ l i wx hRx))
   by_cases h4 : l.length ≥ 4000
   ·rw [show decide ((l.length : Int) ≥ 4000) = true from decide_eq_true (by omega)]
    rw [if_pos h4] at hW
    rw [hW] at hR
    refine WR.aK rfl (WR.reg (WQ.aA [] 1000 _ _ _ _ rfl (WQ.aB ?_)))
    refine bad _ 5 ?_ hR _ _ (fun st q => q)
    repeat (first | exact .nil | refine .cons rfl (.v (VLe.refl _)) ?_ | refine .cons rfl (.l _ _ rfl) ?_)
   rw [show decide ((l.length : Int) ≥ 4000) = false from decide_eq_false (by omega)]
   rw [if_neg h4] at hW
   rw [hW] at hR
   refine WR.aG rfl (WR.skip ?_)
   cases w with
   | succ w =>
    refine bad _ w ?_ hR _ _ (fun st q => q)
    repeat (first | exact .nil | refine .cons rfl (.v (VLe.refl _)) ?_ | refine .cons rfl (.l _ _ rfl) ?_)
   | zero =>
    obtain ⟨p1, p2, p3⟩ := hpos rfl
    simp only at p1 p2 p3 hR
    subst p3
    have sk := yG s h8 hl tke p2
    have g1 := qJ s (s.length + 1) tke
    have g2 := mP s (s.length + 1) tke p2
    unfold tQ
    refine WR.seq (WR.seq (WR.reg (WQ.aA [] 1000 _ _ _ _ rfl (WQ.aB (WR.aG rfl (WR.skip ?_))))))
    refine WR.seq (WR.reg (WQ.aA [] 4 _ _ _ _ rfl ?_))
    refine WQ.bQ rfl rfl rfl (yW rfl rfl rfl (by omega) p2) rfl (WQ.aA [] 1000 _ _ _ _ rfl (WQ.aB ?_))
    refine WR.seq (WR.seq (WR.reg (WQ.aA [] 3 _ _ _ _ rfl ?_)))
    refine WQ.aFk rfl rfl rfl rfl ((wY ha hb l hl4 ⟨tkd, tka, tke, (s.drop i).take (tke - i)⟩ (dg 0 0) aGp s).fD _) rfl (WQ.aA [] 1000 _ _ _ _ rfl (WQ.aB (WR.aG rfl (WR.skip ?_))))
    refine WR.reg (WQ.aA [] 3 _ _ _ _ rfl ?_)
    refine WQ.aE rfl rfl rfl rfl rfl (sk _).more .base rfl (WQ.aA [] 1000 _ _ _ _ rfl (WQ.aB ?_))
    unfold aHw
    refine WR.reg (WQ.aA [] 2 _ _ _ _ rfl ?_)
    rw [bS (by unfold big; omega)]
    refine WQ.aA [] 1000 _ _ _ _ rfl (WQ.aB ?_)
    refine WIr.again (WLr.weak (s := SL.toS ⟨tmI (eW s (s.length + 1) tke) (l ++ [(⟨tkd, tka, tke, (s.drop i).take (tke - i)⟩ : Tk)]).length, [], none, nxT (l ++ [(⟨tkd, tka, tke, (s.drop i).take (tke - i)⟩ : Tk)]), aIq (l ++ [(⟨tkd, tka, tke, (s.drop i).take (tke - i)⟩ : Tk)]) s (lpS .ready none asC bdC), []⟩) ?_ (ih _ _ (by omega) g2 (by simp; omega) hR))
    rw [List.length_append]
    refine SW.bF ?_ ?_
    ·repeat (first | exact .nil | refine .cons rfl (.v (VLe.refl _)) ?_ | refine .cons rfl (.l _ _ rfl) ?_ | refine .cons rfl (.v (VLe.unk _ _)) ?_)
    ·repeat (first | exact .nil | refine .cons rfl (.inl rfl) ?_)
end Go.VM
end
section
/- Tokens: All. -/
set_option maxRecDepth 100000
set_option linter.unusedVariables false
set_option linter.unusedSimpArgs false
namespace Go.VM
open Go.RowKit
def bV (s : List Nat) : List Tk × Nat × Nat := lZ s (s.length + 1) (eW s (s.length + 1) 0) []
def fLv (R : List Tk × Nat × Nat) : V := match R.2.2 with
 | 0 => lvT R.1
 | _ + 1 => .lst [] (.ex 0)
noncomputable def lpE (R : List Tk × Nat × Nat) (asC bdC : Code) : ALoop := match R.2.2 with
 | 0 => lpS .ready none asC bdC
 | _ + 1 => lpS .done (some (.exit 0)) asC bdC
theorem aNx (R : List Tk × Nat × Nat) (asC bdC : Code) : (lpE R asC bdC).tmps = tmA := by
 unfold lpE; split <;> rfl
theorem aDy (R : List Tk × Nat × Nat) : (fLv R).In (· < nxT R.1) := by
 unfold fLv
 split
 ·exact aMj _
 ·exact ⟨trivial, trivial⟩
theorem VLe.aXx {a b c : V} (h : VLe a b) : VLe (.tup [a, c]) (.tup [b, c]) := by
 intro E x r
 cases r with
 | tup _ cs hcs =>
  refine .tup _ _ ?_
  generalize cs.toList = q at hcs
  cases hcs with
  | cons _ v1 _ l1 r1 t1 => exact .cons _ _ _ _ (h E _ r1) t1
def aWh (s : List Nat) (lp : ALoop) : OL := (0, qB) :: (1000, .cells false [.lst [] (.ex 0)]) :: (1001, .cells false (dg 0 0)) :: (1002, .cells false [.str s]) :: (1003, .dfr (some [])) :: (1004, .loop lp) :: []
theorem aJg {asC bdC : Code} (ha : aJ Go.Proofs.Tryd.prog asC = some scA) (hb : aJ Go.Proofs.Tryd.prog bdC = some scB) (s : List Nat) (h8 : ∀ c ∈ s, c < 256) (hl : s.length < big) :
  SCall Go.Proofs.Tryd.prog [0] 28 [.fn (.yield 1004) [] [], .ptr 1002 0] none ⟨1005, og (aWh s (lpS .ready none asC bdC)), []⟩ (.ret (.tup [])) none ⟨nxT (bV s).1, og (iP (fLv (bV s)) (dg (bV s).2.1 (bV s).2.2) s (lpE (bV s) asC bdC) (lU (bV s).1)), []⟩ := by
 refine SCall.aSb (fn := Go.Proofs.Tryd.f28) (by kernel_rfl) aZw (by kernel_rfl) (by kernel_rfl) (by have := rG (bV s).1; omega) (aFi _) (fun c hc => ?_) trivial ?_
 ·by_cases h4 : c = 1003
  ·subst h4; exact .inl rfl
  ·exact .inr fun o ho => uI (rG _) (aDy _) (aGp _) (tT _) (aNx _ _ _) c o h4 ho
 unfold aXw
 have wd := aKv (nx := 1005) (ol := aWh s (lpS .ready none asC bdC)) (lc := []) rfl rfl (by decide)
 have sk := yG s h8 hl 0 (Nat.zero_le _)
 have g2 := mP s (s.length + 1) 0 (Nat.zero_le _)
 refine WR.seq (WR.reg ?_)
 refine WQ.xF rfl rfl rfl rfl rfl wd rfl (WQ.aA [] 1000 _ _ _ _ rfl (WQ.aB ?_))
 refine WR.seq (WR.reg (WQ.aA [] 1000 _ _ _ _ rfl (WQ.aB ?_)))
 refine WR.seq (WR.seq (WR.reg (WQ.aA [] 1 _ _ _ _ rfl ?_)))
 refine WQ.aE rfl rfl rfl rfl rfl (sk _).more .base rfl (WQ.aA [] 1000 _ _ _ _ rfl (WQ.aB ?_))
 refine WR.block (WR.loop (WLr.weak (s := SL.toS ⟨tmI (eW s (s.length + 1) 0) ([] : List Tk).length, [], none, nxT [], aIq [] s (lpS .ready none asC bdC), []⟩) ?_ (aMp ha hb s h8 hl (bV s) (fun tm l i hR hl4 ht => ?_) (fun tm lc l a c hR => ?_) (s.length + 1) _ [] (by omega) g2 (by decide) rfl)))
 ·refine SW.bF ?_ ?_
  ·repeat (first | exact .nil | refine .cons rfl (.v (VLe.refl _)) ?_ | refine .cons rfl (.l _ _ rfl) ?_ | refine .cons rfl (.v (VLe.unk _ _)) ?_)
  ·repeat (first | exact .nil | refine .cons rfl (.inl rfl) ?_)
 ·rw [hR]
  refine WR.weak (SW.bF ht .nil) ?_
  show WR Go.Proofs.Tryd.prog [0] _ aAs _ _ _
  unfold aAs
  refine WR.reg (WQ.aA [] 7 _ _ _ _ rfl ?_)
  refine WQ.aFk rfl rfl rfl rfl ((wY ha hb l hl4 (kP s) (dg 0 0) aGp s).fD _) rfl (WQ.aA [] 1000 _ _ _ _ rfl (WQ.aB ?_))
  exact ⟨rfl, _, .nil, ⟨_, rfl, VLe.refl _⟩, fun _ _ => rfl⟩
 ·rw [hR]
  exact ⟨rfl, _, .nil, ⟨_, rfl, VLe.refl _⟩, fun _ _ => rfl⟩
theorem aCc (s : List Nat) : SCall Go.Proofs.Tryd.prog [] 20 [.str s] none ⟨1000, og [], []⟩ (.ret (.fn (.func 28) [] [.ptr 1000 0])) none ⟨1001, og [(1000, .cells false [.str s])], []⟩ := by
 refine SCall.listed (fn := Go.Proofs.Tryd.f20) (by kernel_rfl) aXa (by kernel_rfl) (by kernel_rfl) (Nat.le_succ _) rfl ⟨⟨trivial, trivial⟩, trivial⟩ ⟨trivial, trivial, (by show (1000 : Nat) < 1001; decide), trivial⟩ ?_
 unfold aZg
 refine WR.seq (WR.reg (WQ.aA [1] 1000 _ _ _ _ rfl (WQ.aB ?_)))
 refine WR.seq (WR.reg (WQ.aA [] 1000 _ _ _ _ rfl (WQ.aB ?_)))
 refine WR.ret ⟨rfl, rfl, ⟨_, rfl, VLe.refl _⟩, fun b _ => rfl⟩
theorem aDf (s : List Nat) (h : H) (hg : aF ≤ h.nxt) : SCall Go.Proofs.Tryd.prog [] 20 [.str s] none h (.ret (.fn (.func 28) [] [.ptr h.nxt 0])) none (h.new (.cells false [.str s])) := by
 have r0 : ρL [] h.nxt 1000 = h.nxt := (mA (bs := []) (i := 1000) (Nat.le_refl _)).trans (by simp [aF])
 refine SCall.aDv (n := 1) [] rfl (aCc s) .nil (by simp) (fun i => ?_) rfl (fun i c o hi ho => by cases hi) trivial ⟨trivial, trivial⟩ ⟨trivial, trivial, (by show (1000 : Nat) < 1001; decide), trivial⟩ (by exact ⟨⟨trivial, trivial⟩, trivial⟩) rfl ?_ rfl rfl (fun i hi => ?_) (fun c hc => ?_)
 ·show (Option.isSome none = true) ↔ 1000 ≤ i ∧ i < 1000
  simp
 ·show V.fn (.func 28) [] [V.ptr (ρL [] h.nxt 1000) 0] = _
  rw [r0]
 ·have hi : i = 0 := by have : i < 1 := hi; omega
  subst hi
  show (h.new _).ob (ρL [] h.nxt 1000) = _
  rw [r0]
  show (if h.nxt = h.nxt then _ else _) = _
  rw [if_pos rfl]; rfl
 ·have : ρL [] h.nxt 1000 ≠ c := hc 0 (by show 0 < 1; decide)
  rw [r0] at this
  show (if c = h.nxt then _ else _) = _
  rw [if_neg (fun e => this e.symm)]
def wQ (lv : V) (wr : List V) (s : List Nat) (lp : ALoop) (row : OL) : OL :=
 (0, qB) :: (1000, .cells false [lv]) :: (1001, .cells false wr) :: (1002, .cells false [.str s]) :: (1003, .dfr none) :: (1004, .loop lp) :: (1005, .map tA) :: row
theorem aOt {lv : V} {wr : List V} {s : List Nat} {lp : ALoop} {row : OL} {nx : Nat} (hn : 1007 ≤ nx) (hlv : lv.In (· < nx)) (hw : Ins (· < nx) wr) (hrow : fR (· < nx) row) (hlp : lp.tmps = tmA) :
  ∀ c o, og (wQ lv wr s lp row) c = some o → gA nx o := by
 intro c o ho
 by_cases h4 : c = 1003
 ·subst h4; cases ho
  exact fun E p w h => h
 ·refine uI (lv := lv) (wr := wr) (s := s) (lp := lp) (row := row) hn hlv hw hrow hlp c o h4 ?_
  simp only [iP, wQ, aT, if_neg h4] at ho ⊢
  exact ho
theorem aUe {lv : V} {wr : List V} {s : List Nat} {lp : ALoop} (l : List Tk) : olB (nxT l) (wQ lv wr s lp (lU l)) = true := by
 cases l <;> rfl
theorem aMh (s : List Nat) (h8 : ∀ c ∈ s, c < 256) (hl : s.length < big) :
  ∃ lp : ALoop, SCall Go.Proofs.Tryd.prog [0] 12 [.str s] none ⟨1000, og tOl, []⟩ (.ret (.tup [fLv (bV s), .agg (dg (bV s).2.1 (bV s).2.2)])) none ⟨nxT (bV s).1, og (wQ (fLv (bV s)) (dg (bV s).2.1 (bV s).2.2) s lp (lU (bV s).1)), []⟩ := by
 have key := SCall.aQu (ι := Code × Code) (P := Go.Proofs.Tryd.prog) (gl := [0]) (f := 12) (fn := Go.Proofs.Tryd.f12) (rc := aVj) (args := [.str s]) (nx := 1000) (ol := tOl) (nx' := fun _ => nxT (bV s).1)
  (ol' := fun c => wQ (fLv (bV s)) (dg (bV s).2.1 (bV s).2.2) s ⟨.exhausted, (match (bV s).2.2 with | 0 => none | _ + 1 => some (.exit 0)), 12, false, tmA, Go.Proofs.Tryd.f12.ntmps, [10, 11], c.1, c.2⟩ (lU (bV s).1))
  (v := fun _ => .tup [fLv (bV s), .agg (dg (bV s).2.1 (bV s).2.2)]) (by kernel_rfl) aWy (by kernel_rfl) (by kernel_rfl) (fun _ => by have := rG (bV s).1; omega) (fun _ => aUe _) (fun _ c hc => .inr fun o ho => aOt (rG _) (aDy _) (aGp _) (tT _) rfl c o ho) (fun _ => ⟨aDy _, ⟨trivial, trivial, trivial⟩, trivial⟩) ?_
 ·obtain ⟨i, hi⟩ := key
  exact ⟨_, hi⟩
 unfold aVj
 refine WR.seq (WR.reg (WQ.aA [] 1000 _ _ _ _ rfl (WQ.aB ?_)))
 refine WR.scope (WR.seq (WR.reg (WQ.aA [4] 1000 _ _ _ _ rfl (WQ.aB ?_))))
 refine WR.seq (WR.reg (WQ.aA [5] 1000 _ _ _ _ rfl (WQ.aB ?_)))
 refine WR.seq (WR.skip ?_)
 refine WR.seq (WR.seq (WR.reg (WQ.aA [] 1 _ _ _ _ rfl ?_)))
 refine WQ.aE rfl rfl rfl rfl rfl (aDf s _ (by decide)).more (.new .base rfl) rfl (WQ.aB ?_)
 refine WR.block (WR.rng tmA rfl rfl ?_ rfl (fun asC bdC ha hb => ?_))
 ·repeat (first | exact .nil | refine .cons rfl (.v (VLe.refl _)) ?_)
 refine ⟨_, _, _, lpE (bV s) asC bdC, (match (bV s).2.2 with | 0 => X.norm | _ + 1 => .exit 0), (aJg ha hb s h8 hl).fD _, rfl, ?_, ?_, ?_⟩
 ·unfold lpE; split <;> simp [lpS]
 ·unfold lpE; split <;> rfl
 generalize bV s = R
 obtain ⟨l, a, c⟩ := R
 have fin : ∀ (lv : V) (wr : List V) (lp : ALoop) (c : Nat), og (wQ lv wr s lp (lU l)) c = ((⟨nxT l, og (iP lv wr s lp (lU l)), []⟩ : H).put 1003 (.dfr none)).ob c := fun lv wr lp c => by rw [oR]; rfl
 cases c with
 | zero =>
  show WR Go.Proofs.Tryd.prog [0] _ qA _ _ _
  unfold qA
  cases l with
  | nil =>
   refine WR.seq (WR.aW bE (DW.aA [] 1000 _ _ _ _ _ _ rfl ?_))
   refine DW.stS (by repeat (first | exact .nil | refine PendR.aI rfl ?_ | refine PendR.aH rfl ?_ | refine PendR.aD rfl ?_)) rfl rfl rfl rfl (DW.aA [] 1000 _ _ _ _ _ _ rfl ?_)
   refine DW.dN (by repeat (first | exact .nil | refine PendR.aI rfl ?_ | refine PendR.aH rfl ?_ | refine PendR.aD rfl ?_)) ?_
   exact WR.ret ⟨(asC, bdC), rfl, _, .cons rfl .nil, ⟨_, rfl, VLe.refl _⟩, fun c _ => fin _ _ _ c⟩
  | cons x l =>
   refine WR.seq (WR.aW bE (DW.aA [] 1000 _ _ _ _ _ _ rfl ?_))
   refine DW.stS (by repeat (first | exact .nil | refine PendR.aI rfl ?_ | refine PendR.aH rfl ?_ | refine PendR.aD rfl ?_)) rfl rfl rfl rfl (DW.aA [] 1000 _ _ _ _ _ _ rfl ?_)
   refine DW.dN (by repeat (first | exact .nil | refine PendR.aI rfl ?_ | refine PendR.aH rfl ?_ | refine PendR.aD rfl ?_)) ?_
   exact WR.ret ⟨(asC, bdC), rfl, _, .cons rfl .nil, ⟨_, rfl, VLe.refl _⟩, fun c _ => fin _ _ _ c⟩
 | succ c =>
  show WR Go.Proofs.Tryd.prog [0] _ qA _ _ _
  unfold qA
  cases l with
  | nil =>
   refine WR.seq (WR.aW bE (DW.aA [] 1000 _ _ _ _ _ _ rfl ?_))
   refine DW.stS (by repeat (first | exact .nil | refine PendR.aI rfl ?_ | refine PendR.aH rfl ?_ | refine PendR.aD rfl ?_)) rfl rfl rfl rfl (DW.aA [] 1000 _ _ _ _ _ _ rfl ?_)
   refine DW.dN (by repeat (first | exact .nil | refine PendR.aI rfl ?_ | refine PendR.aH rfl ?_ | refine PendR.aD rfl ?_)) ?_
   exact WR.ret ⟨(asC, bdC), rfl, _, .cons rfl .nil, ⟨_, rfl, VLe.refl _⟩, fun c _ => fin _ _ _ c⟩
  | cons x l =>
   refine WR.seq (WR.aW bE (DW.aA [] 1000 _ _ _ _ _ _ rfl ?_))
   refine DW.stS (by repeat (first | exact .nil | refine PendR.aI rfl ?_ | refine PendR.aH rfl ?_ | refine PendR.aD rfl ?_)) rfl rfl rfl rfl (DW.aA [] 1000 _ _ _ _ _ _ rfl ?_)
   refine DW.dN (by repeat (first | exact .nil | refine PendR.aI rfl ?_ | refine PendR.aH rfl ?_ | refine PendR.aD rfl ?_)) ?_
   exact WR.ret ⟨(asC, bdC), rfl, _, .cons rfl .nil, ⟨_, rfl, VLe.refl _⟩, fun c _ => fin _ _ _ c⟩
def aBx (s : List Nat) : V := .tup [.lst ((match (bV s).2.2 with | 0 => (bV s).1 | _ + 1 => []).map gT) .unk, .agg (dg (bV s).2.1 (bV s).2.2)]
theorem aRj {D : Nat → Prop} (s : List Nat) : (aBx s).In D := ⟨⟨aEp _, trivial⟩, ⟨trivial, trivial, trivial⟩, trivial⟩
theorem aKp (s : List Nat) (h8 : ∀ c ∈ s, c < 256) (hl : s.length < big) : SCall Go.Proofs.Tryd.prog [0] 12 [.str s] none ⟨1000, og tOl, []⟩ (.ret (aBx s)) none ⟨nxT (bV s).1, og tOl, []⟩ := by
 obtain ⟨lp, hc⟩ := aMh s h8 hl
 unfold aBx
 refine (hc.weak (v' := aBx s) ?_).drop rfl rfl (fun c o ho => ?_) (fun c hc => ?_)
 ·unfold aBx fLv
  cases hz : (bV s).2.2 with
  | zero =>
   refine VLe.aXx ?_
   cases (bV s).1 with
   | nil => exact VLe.unk _ _
   | cons x l => exact VLe.unk _ _
  | succ c => exact VLe.aXx (VLe.unk _ _)
 ·have ho : og tOl c = some o := ho
  show og (wQ _ _ _ _ _) c = some o
  simp only [tOl, wQ, aT] at ho ⊢
  split at ho
  ·rename_i e; rw [if_pos e]; exact ho
  ·cases ho
 ·have hc : c < 1000 := hc
  show og tOl c = og (wQ _ _ _ _ _) c
  simp only [tOl, wQ, aT]
  split
  ·rfl
  ·repeat rw [if_neg (by omega)]
   cases (bV s).1 with
   | nil => rfl
   | cons x l => simp only [lU, aT]; rw [if_neg (by omega)]
end Go.VM
end
