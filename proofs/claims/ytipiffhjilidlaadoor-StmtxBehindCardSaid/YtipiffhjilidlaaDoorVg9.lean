/- laid for this seat: VzE VzF VzG VzH -/
import Derived.Test.YtipiffhjilidlaaDoorVg8
section
/- Statements: a name's value; one statement. -/
set_option maxRecDepth 100000
set_option linter.unusedVariables false
set_option linter.unusedSimpArgs false
namespace Go.VM
open Go.RowKit
def sC (k : Int) (p : Int) (nm : List Nat) (has : Bool) (xc : List V) (b e : V) : List V := [.int .i64 k, .int .i64 p, .str nm, .bool has] ++ (xc ++ [b, e])
def nilV : V := .lst [] (.ex 0)
def sL (l : List Tz) (d : Nat) (s : Sr) (t u : Tz) (cs : List V) : OL := [(1000, srO l d s), (1001, .cells false (encTz t)), (1002, .cells false (encTz u)), (1003, .cells false cs)]
theorem sL_in {D : Nat → Prop} (l : List Tz) (d : Nat) (s : Sr) (t u : Tz) {cs : List V} (h : Ins D cs) : olIn D (sL l d s t u cs) := ⟨srO_in l d s, (by exact ⟨trivial, trivial, trivial, trivial, trivial⟩), (by exact ⟨trivial, trivial, trivial, trivial, trivial⟩), h, trivial⟩
theorem sC_inX {D : Nat → Prop} (k p : Int) (nm : List Nat) (has : Bool) : ∀ x : Ex, Ins D (sC k p nm has (encEx x) nilV nilV)
 | .mk xk xa xe xn xv (.mk tk ta tp tn tl) xs => ⟨trivial, trivial, trivial, trivial, trivial, trivial, trivial, trivial, trivial, trivial, trivial, trivial, trivial, ⟨encTxs_in tl, trivial⟩, ⟨encExs_in xs, trivial⟩, ⟨trivial, trivial⟩, ⟨trivial, trivial⟩, trivial⟩
theorem val_core {l : List Tz} {P : Nat → R Ex} (hP : ParseOk l P) (hl : l.length < 4294967296) (d : Nat) (s : Sr) (hs : s.a ≤ l.length) (k : Nat) (p : Int) (nm : List Nat) (t u : Tz) :
  SCall Go.Proofs.Tryd.prog [] 56 [.ptr 1000 0, .ptr 1003 0, .int .i64 k] none ⟨1004, og (sL l d s t u (sC 0 p nm false zEx nilV nilV)), []⟩ (.ret (.tup [])) none ⟨1004, og (sL l d (valS l P k p nm s).2 t u (sC k p nm false (encEx (exprS P (mustS l s [61])).1) nilV nilV)), []⟩ := by
 have h1 := must_stp hs (x := [61])
 have h2 := expr_stp hP h1.len
 unfold valS
 refine SCall.listedR (fn := Go.Proofs.Tryd.f56) (by kernel_rfl) res56 (by kernel_rfl) (by kernel_rfl) (Nat.le_refl _) rfl ((sL_in _ _ _ _ _ (sC_inX _ _ _ _ _))) trivial ?_
 unfold rc56
 repeat (refine WR.seq ?_)
 refine WR.reg (WQ.runS [] 1000 _ _ _ _ rfl (WQ.nilS ?_))
 repeat (refine WR.seq ?_)
 refine WR.reg (WQ.runS [] 1 _ _ _ _ rfl ?_)
 refine WQ.callH rfl rfl rfl rfl rfl (mustS_at (x := [61]) hl hs (by decide) rfl) (.put .base rfl) rfl ?_
 have he := exprS_at hP (d := d) h1.len (h := ⟨1004, og (sL l d (mustS l s [61]) t u (sC k p nm false zEx nilV nilV)), []⟩) (R := 1000) (by decide) rfl
 generalize (exprS P (mustS l s [61])).1 = x at he ⊢
 generalize (exprS P (mustS l s [61])).2 = s2 at he h2 ⊢
 obtain ⟨xk, xa, xe, xn, xv, ⟨xtk, xta, xtp, xtn, xtl⟩, xs⟩ := x
 refine WQ.runS [] 1000 _ _ _ _ rfl (WQ.nilS ?_)
 repeat (refine WR.seq ?_)
 refine WR.reg (WQ.runS [] 2 _ _ _ _ rfl ?_)
 refine WQ.callH rfl rfl rfl rfl rfl he (.put .base rfl) rfl ?_
 refine WQ.runS [] 1000 _ _ _ _ rfl (WQ.nilS ?_)
 repeat (refine WR.seq ?_)
 refine WR.reg (WQ.runS [] 1 _ _ _ _ rfl ?_)
 refine WQ.callH rfl rfl rfl rfl rfl (mustS_at (x := [59]) hl h2.len (by decide) rfl) (.put .base rfl) rfl ?_
 refine WQ.runS [] 1000 _ _ _ _ rfl (WQ.nilS ?_)
 exact ⟨rfl, rfl, ⟨_, rfl, VLe.refl _⟩, fun _ _ => rfl⟩
structure SpecS (l : List Tz) (f : Sf) : Prop where
 block : ∀ d s v s', d ≤ 30 → s.a ≤ l.length → f.block d s = some (v, s') → SCall Go.Proofs.Tryd.prog [] 25 [.ptr 1000 0] none ⟨1001, og (srL l d s), []⟩ (.ret (.lst (encSxs v) .unk)) none ⟨1001, og (srL l d s'), []⟩
 stmt : ∀ d s v s', d ≤ 30 → s.a ≤ l.length → f.stmt d s = some (v, s') → SCall Go.Proofs.Tryd.prog [] 37 [.ptr 1000 0] none ⟨1001, og (srL l d s), []⟩ (.ret (.agg (encSx v))) none ⟨1001, og (srL l d s'), []⟩
end Go.VM
end
section
/- Statements: one statement. -/
set_option maxRecDepth 100000
set_option linter.unusedVariables false
set_option linter.unusedSimpArgs false
namespace Go.VM
open Go.RowKit
def stTm : TM := [(0, .v (.ptr 1000 0)), (2, .l 2 0), (3, .v (.ptr 1001 0)), (4, .v (.ptr 1002 0)), (5, .v (.ptr 1003 0)), (6, .v (.fn (.func 25) [.ptr 1000 0] []))]
def stLc : LM := [(2, sC 0 0 [] false zEx nilV nilV)]
theorem og_one4 {o a b c : Obj} (x : Nat) (h : x < 1001) : og [(1000, o)] x = og [(1000, o), (1001, a), (1002, b), (1003, c)] x := by
 simp only [og_cons]
 split
 ·rfl
 ·rw [if_neg (by omega), if_neg (by omega), if_neg (by omega)]
theorem block_at {l : List Tz} {f : Sf} (hf : SpecS l f) {d : Nat} (hd : d ≤ 30) {s : Sr} (hs : s.a ≤ l.length) {v : List Sx} {s' : Sr} (e : f.block d s = some (v, s')) {h : H} {R : Nat} (hR : glim ≤ R) (h1 : h.ob R = some (srO l d s)) :
  SCall Go.Proofs.Tryd.prog [] 25 [.ptr R 0] none h (.ret (.lst (encSxs v) .unk)) none (h.put R (srO l d s')) :=
 sat_any (hf.block d s v s' hd hs e) trivial ⟨encSxs_in _, trivial⟩ hR h1
theorem stmt_body {l : List Tz} {P : Nat → R Ex} (hP : ParseOk l P) (hl : l.length < 4294967296) {f : Sf} (hf : SpecS l f) (iv : InvS l f) (d : Nat) (hd : d ≤ 30) (s : Sr) (hs : s.a ≤ l.length) {v : Sx} {s' : Sr} (he : sStmt l P f d s = some (v, s')) {r1 r2 r3 r4 r : RC} (h4 : rc37 = .seq r1 (.seq r2 (.seq r3 (.seq r4 r))))
  {t u : Tz} (ht : t = nowF l s.a) (hu : u = nowF l (s.a + 1)) {p : Int} (hp : p = t.a) {tm : TM} (htm : TellT tm stLc stTm) {lc : LM} (hlc : TellL lc stLc) :
  WR Go.Proofs.Tryd.prog [] ⟨Go.Proofs.Tryd.f37.ntmps, none, 37⟩ r (SL.toS ⟨tm, [], none, 1004, sL l d s t u (sC 0 p [] false zEx nilV nilV), lc⟩) (EndN Go.Proofs.Tryd.prog Go.Proofs.Tryd.f37 (.ret (.agg (encSx v))) 1001 (srL l d s')) (EndX Go.Proofs.Tryd.prog Go.Proofs.Tryd.f37 (.ret (.agg (encSx v))) 1001 (srL l d s')) := by
 refine WR.weak (SW.tellR htm hlc) ?_
 unfold rc37 at h4
 cases h4
 have tk := fun lc => tokS_at (l := l) (d := d) (s := nextS s) (i := s.a + 1) hl (h := ⟨1004, og (sL l d (nextS s) t u (sC 0 p [] false zEx nilV nilV)), lc⟩) (R := 1000) (by decide) rfl
 have i1 := fun lc => isS_at (l := l) (d := d) (s := s) (k := 5) (x := sLet) hl hs (h := ⟨1004, og (sL l d (s) t u (sC 0 p [] false zEx nilV nilV)), lc⟩) (R := 1000) (by decide) rfl
 unfold isN at i1
 have i2 := fun lc => isS_at (l := l) (d := d) (s := s) (k := 5) (x := sRet) hl hs (h := ⟨1004, og (sL l d (s) t u (sC 0 p [] false zEx nilV nilV)), lc⟩) (R := 1000) (by decide) rfl
 unfold isN at i2
 have i3 := fun lc => isS_at (l := l) (d := d) (s := s) (k := 5) (x := sIf) hl hs (h := ⟨1004, og (sL l d (s) t u (sC 0 p [] false zEx nilV nilV)), lc⟩) (R := 1000) (by decide) rfl
 unfold isN at i3
 have i4 := fun lc => isS_at (l := l) (d := d) (s := s) (k := 5) (x := sFor) hl hs (h := ⟨1004, og (sL l d (s) t u (sC 0 p [] false zEx nilV nilV)), lc⟩) (R := 1000) (by decide) rfl
 unfold isN at i4
 unfold sStmt at he
 rw [← ht, ← hu, ← hp] at he
 rw [← hu] at tk
 unfold sLet at i1 he
 unfold sRet at i2 he
 unfold sIf at i3 he
 unfold sFor at i4 he
 repeat (refine WR.seq ?_)
 refine WR.block ?_
 repeat (refine WR.seq ?_)
 refine WR.reg (WQ.runS [5] 1 _ _ _ _ rfl ?_)
 refine WQ.callH rfl rfl rfl rfl rfl (i1 _) (.put .base rfl) rfl ?_
 cases h1 : isS l s 5 [108, 101, 116] with
 | true =>
  have h0 := isS_lt h1 (by decide)
  rw [h1] at he
  refine WQ.runS [5] 1000 _ _ _ _ rfl (WQ.nilS ?_)
  repeat (refine WR.seq ?_)
  refine WR.condT rfl ?_
  repeat (refine WR.seq ?_)
  refine WR.reg (WQ.runS [5] 5 _ _ _ _ rfl ?_)
  refine WQ.callH rfl rfl rfl rfl rfl (tk _) .base rfl ?_
  refine WQ.runS [5] 1000 _ _ _ _ rfl (WQ.nilS ?_)
  repeat (refine WR.seq ?_)
  refine WR.reg (WQ.runS [5] 1000 _ _ _ _ rfl (WQ.nilS ?_))
  cases hk : decide (u.k = 1) with
  | true =>
   rw [hk] at he
   have he := Option.some.inj he
   have hn := now_lt (l := l) (a := s.a + 1) (by rw [← hu, of_decide_eq_true hk]; decide)
   have vc := val_core hP hl d (nextS (nextS s)) hn 1 p u.t t u
   unfold valS at he vc
   generalize (exprS P (mustS l (nextS (nextS s)) [61])) = r at he vc
   obtain ⟨⟨xk, xa, xe, xn, xv, ⟨xtk, xta, xtp, xtn, xtl⟩, xs⟩, s3⟩ := r
   cases he
   repeat (refine WR.seq ?_)
   refine WR.condT rfl ?_
   repeat (refine WR.seq ?_)
   refine WR.reg (WQ.runS [5] 1000 _ _ _ _ rfl (WQ.nilS ?_))
   repeat (refine WR.seq ?_)
   refine WR.reg (WQ.runS [5] 5 _ _ _ _ rfl ?_)
   rw [nextB (by show s.a + 1 < big; unfold big; omega)]
   refine WQ.runS [5] 1000 _ _ _ _ rfl (WQ.nilS ?_)
   unfold rc37_J1
   repeat (refine WR.seq ?_)
   refine WR.reg (WQ.runS [5] 1 _ _ _ _ rfl ?_)
   refine WQ.callH rfl rfl rfl rfl rfl (SCall.relc vc _) .base rfl ?_
   refine WQ.runS [5] 1000 _ _ _ _ rfl (WQ.nilS ?_)
   unfold rc37_J2
   repeat (refine WR.seq ?_)
   refine WR.reg (WQ.runS [5] 1000 _ _ _ _ rfl (WQ.nilS ?_))
   refine WR.ret ⟨rfl, rfl, ⟨_, rfl, by repeat (first | exact VLe.refl _ | exact VLe.unk _ _ | refine VLe.tup ?_ | refine VLe.agg ?_ | exact VLL.nil | refine VLL.cons ?_ ?_)⟩, fun b hb => og_one4 b hb⟩
  | false =>
   rw [hk] at he
   have he := Option.some.inj he
   have hn := fail_stp (l := l) (s := nextS s) (next_stp h0).len (c := 5) (by decide)
   have vc := val_core hP hl d (failS l (nextS s) 5) hn.len 1 p [] t u
   unfold valS at he vc
   generalize (exprS P (mustS l (failS l (nextS s) 5) [61])) = r at he vc
   obtain ⟨⟨xk, xa, xe, xn, xv, ⟨xtk, xta, xtp, xtn, xtl⟩, xs⟩, s3⟩ := r
   cases he
   refine WR.condF rfl ?_
   repeat (refine WR.seq ?_)
   refine WR.reg (WQ.runS [5] 1 _ _ _ _ rfl ?_)
   have fl := fun lc => failS_at (l := l) (d := d) (s := nextS s) (c := 5) hl (h := ⟨1004, og (sL l d (nextS s) t u (sC 0 p [] false zEx nilV nilV)), lc⟩) (R := 1000) (by decide) rfl
   refine WQ.callH rfl rfl rfl rfl rfl (fl _) (.put .base rfl) rfl ?_
   refine WQ.runS [5] 1000 _ _ _ _ rfl (WQ.nilS ?_)
   unfold rc37_J1
   repeat (refine WR.seq ?_)
   refine WR.reg (WQ.runS [5] 1 _ _ _ _ rfl ?_)
   refine WQ.callH rfl rfl rfl rfl rfl (SCall.relc vc _) .base rfl ?_
   refine WQ.runS [5] 1000 _ _ _ _ rfl (WQ.nilS ?_)
   unfold rc37_J2
   repeat (refine WR.seq ?_)
   refine WR.reg (WQ.runS [5] 1000 _ _ _ _ rfl (WQ.nilS ?_))
   refine WR.ret ⟨rfl, rfl, ⟨_, rfl, by repeat (first | exact VLe.refl _ | exact VLe.unk _ _ | refine VLe.tup ?_ | refine VLe.agg ?_ | exact VLL.nil | refine VLL.cons ?_ ?_)⟩, fun b hb => og_one4 b hb⟩
 | false =>
 rw [h1] at he
 refine WQ.runS [5] 1000 _ _ _ _ rfl (WQ.nilS ?_)
 refine WR.condF rfl ?_
 repeat (refine WR.seq ?_)
 refine WR.reg (WQ.runS [5] 1 _ _ _ _ rfl ?_)
 refine WQ.callH rfl rfl rfl rfl rfl (i2 _) (.put .base rfl) rfl ?_
 cases h2 : isS l s 5 [114, 101, 116, 117, 114, 110] with
 | true =>
  have h0 := isS_lt h2 (by decide)
  rw [h2] at he
  have j := fun lc => isS_at (l := l) (d := d) (s := nextS s) (k := 4) (x := [59]) hl (next_stp h0).len (h := ⟨1004, og (sL l d (nextS s) t u (sC 3 p [] false zEx nilV nilV)), lc⟩) (R := 1000) (by decide) rfl
  unfold isN at j
  refine WQ.runS [5] 1000 _ _ _ _ rfl (WQ.nilS ?_)
  repeat (refine WR.seq ?_)
  refine WR.condT rfl ?_
  repeat (refine WR.seq ?_)
  refine WR.reg (WQ.runS [5] 1000 _ _ _ _ rfl (WQ.nilS ?_))
  repeat (refine WR.seq ?_)
  refine WR.reg (WQ.runS [5] 1 _ _ _ _ rfl ?_)
  refine WQ.callH rfl rfl rfl rfl rfl (j _) (.put .base rfl) rfl ?_
  cases h3 : isS l (nextS s) 4 [59] with
  | true =>
   rw [h3] at he
   cases he
   refine WQ.runS [5] 1000 _ _ _ _ rfl (WQ.nilS ?_)
   repeat (refine WR.seq ?_)
   refine WR.condF rfl (WR.skip ?_)
   unfold rc37_J2
   repeat (refine WR.seq ?_)
   refine WR.reg (WQ.runS [5] 1000 _ _ _ _ rfl (WQ.nilS ?_))
   refine WR.ret ⟨rfl, rfl, ⟨_, rfl, by repeat (first | exact VLe.refl _ | exact VLe.unk _ _ | refine VLe.tup ?_ | refine VLe.agg ?_ | exact VLL.nil | refine VLL.cons ?_ ?_)⟩, fun b hb => og_one4 b hb⟩
  | false =>
   rw [h3] at he
   have hx := expr_stp hP (next_stp h0).len
   have ex := fun lc => exprS_at hP (d := d) (s := nextS s) (next_stp h0).len (h := ⟨1004, og (sL l d (nextS s) t u (sC 3 p [] false zEx nilV nilV)), lc⟩) (R := 1000) (by decide) rfl
   generalize (exprS P (nextS s)) = r at he hx ex
   obtain ⟨⟨xk, xa, xe, xn, xv, ⟨xtk, xta, xtp, xtn, xtl⟩, xs⟩, s3⟩ := r
   cases he
   refine WQ.runS [5] 1000 _ _ _ _ rfl (WQ.nilS ?_)
   repeat (refine WR.seq ?_)
   refine WR.condT rfl ?_
   repeat (refine WR.seq ?_)
   refine WR.reg (WQ.runS [5] 1 _ _ _ _ rfl ?_)
   refine WQ.callH rfl rfl rfl rfl rfl (ex _) (.put .base rfl) rfl ?_
   refine WQ.runS [5] 1000 _ _ _ _ rfl (WQ.nilS ?_)
   repeat (refine WR.seq ?_)
   refine WR.reg (WQ.runS [5] 1 _ _ _ _ rfl ?_)
   refine WQ.callH rfl rfl rfl rfl rfl (mustS_at (x := [59]) hl hx.len (by decide) rfl) (.put .base rfl) rfl ?_
   refine WQ.runS [5] 1000 _ _ _ _ rfl (WQ.nilS ?_)
   unfold rc37_J2
   repeat (refine WR.seq ?_)
   refine WR.reg (WQ.runS [5] 1000 _ _ _ _ rfl (WQ.nilS ?_))
   refine WR.ret ⟨rfl, rfl, ⟨_, rfl, by repeat (first | exact VLe.refl _ | exact VLe.unk _ _ | refine VLe.tup ?_ | refine VLe.agg ?_ | exact VLL.nil | refine VLL.cons ?_ ?_)⟩, fun b hb => og_one4 b hb⟩
 | false =>
 rw [h2] at he
 refine WQ.runS [5] 1000 _ _ _ _ rfl (WQ.nilS ?_)
 refine WR.condF rfl ?_
 repeat (refine WR.seq ?_)
 refine WR.reg (WQ.runS [5] 1 _ _ _ _ rfl ?_)
 refine WQ.callH rfl rfl rfl rfl rfl (i3 _) (.put .base rfl) rfl ?_
 cases h3 : isS l s 5 [105, 102] with
 | true =>
  have h0 := isS_lt h3 (by decide)
  rw [h3] at he
  have hx := expr_stp hP (next_stp h0).len
  have ex := fun lc => exprS_at hP (d := d) (s := nextS s) (next_stp h0).len (h := ⟨1004, og (sL l d (nextS s) t u (sC 0 p [] false zEx nilV nilV)), lc⟩) (R := 1000) (by decide) rfl
  generalize (exprS P (nextS s)) = r at he hx ex
  obtain ⟨⟨xk, xa, xe, xn, xv, ⟨xtk, xta, xtp, xtn, xtl⟩, xs⟩, s3⟩ := r
  refine WQ.runS [5] 1000 _ _ _ _ rfl (WQ.nilS ?_)
  repeat (refine WR.seq ?_)
  refine WR.condT rfl ?_
  repeat (refine WR.seq ?_)
  refine WR.reg (WQ.runS [5] 1 _ _ _ _ rfl ?_)
  refine WQ.callH rfl rfl rfl rfl rfl (ex _) (.put .base rfl) rfl ?_
  refine WQ.runS [5] 1000 _ _ _ _ rfl (WQ.nilS ?_)
  repeat (refine WR.seq ?_)
  refine WR.reg (WQ.runS [5] 1 _ _ _ _ rfl ?_)
  cases hb : f.block d s3 with
  | none => simp only [hb] at he; cases he
  | some q =>
   obtain ⟨b, s4⟩ := q
   have hbs := iv.block _ _ _ _ hx.len hb
   simp only [hb] at he
   refine WQ.callH rfl rfl rfl rfl rfl (block_at hf hd hx.len hb (by decide) rfl) (.put .base rfl) rfl ?_
   refine WQ.runS [5] 1000 _ _ _ _ rfl (WQ.nilS ?_)
   repeat (refine WR.seq ?_)
   refine WR.reg (WQ.runS [5] 1 _ _ _ _ rfl ?_)
   refine WQ.callH rfl rfl rfl rfl rfl (isS_at (l := l) (d := d) (s := s4) (k := 5) (x := [101, 108, 115, 101]) hl hbs.len (by decide) rfl) (.put .base rfl) rfl ?_
   unfold isN
   unfold sElse at he
   cases h4 : isS l s4 5 [101, 108, 115, 101] with
   | false =>
    rw [h4] at he
    cases he
    refine WQ.runS [5] 1000 _ _ _ _ rfl (WQ.nilS ?_)
    refine WR.condF rfl (WR.skip ?_)
    unfold rc37_J2
    repeat (refine WR.seq ?_)
    refine WR.reg (WQ.runS [5] 1000 _ _ _ _ rfl (WQ.nilS ?_))
    refine WR.ret ⟨rfl, rfl, ⟨_, rfl, by repeat (first | exact VLe.refl _ | exact VLe.unk _ _ | refine VLe.tup ?_ | refine VLe.agg ?_ | exact VLL.nil | refine VLL.cons ?_ ?_)⟩, fun b hb => og_one4 b hb⟩
   | true =>
    have h5 := next_stp (isS_lt h4 (by decide))
    rw [h4] at he
    cases hb2 : f.block d (nextS s4) with
    | none => simp only [hb2] at he; cases he
    | some q =>
     obtain ⟨b2, s5⟩ := q
     simp only [hb2] at he
     cases he
     refine WQ.runS [5] 1000 _ _ _ _ rfl (WQ.nilS ?_)
     repeat (refine WR.seq ?_)
     refine WR.condT rfl ?_
     repeat (refine WR.seq ?_)
     refine WR.reg (WQ.runS [5] 1 _ _ _ _ rfl ?_)
     refine WQ.callH rfl rfl rfl rfl rfl (block_at hf hd h5.len hb2 (by decide) rfl) (.put .base rfl) rfl ?_
     refine WQ.runS [5] 1000 _ _ _ _ rfl (WQ.nilS ?_)
     unfold rc37_J2
     repeat (refine WR.seq ?_)
     refine WR.reg (WQ.runS [5] 1000 _ _ _ _ rfl (WQ.nilS ?_))
     refine WR.ret ⟨rfl, rfl, ⟨_, rfl, by repeat (first | exact VLe.refl _ | exact VLe.unk _ _ | refine VLe.tup ?_ | refine VLe.agg ?_ | exact VLL.nil | refine VLL.cons ?_ ?_)⟩, fun b hb => og_one4 b hb⟩
 | false =>
 rw [h3] at he
 refine WQ.runS [5] 1000 _ _ _ _ rfl (WQ.nilS ?_)
 refine WR.condF rfl ?_
 repeat (refine WR.seq ?_)
 refine WR.reg (WQ.runS [5] 1 _ _ _ _ rfl ?_)
 refine WQ.callH rfl rfl rfl rfl rfl (i4 _) (.put .base rfl) rfl ?_
 cases h4 : isS l s 5 [102, 111, 114] with
 | true =>
  have h0 := isS_lt h4 (by decide)
  rw [h4] at he
  have hx := expr_stp hP (next_stp h0).len
  have ex := fun lc => exprS_at hP (d := d) (s := nextS s) (next_stp h0).len (h := ⟨1004, og (sL l d (nextS s) t u (sC 0 p [] false zEx nilV nilV)), lc⟩) (R := 1000) (by decide) rfl
  generalize (exprS P (nextS s)) = r at he hx ex
  obtain ⟨⟨xk, xa, xe, xn, xv, ⟨xtk, xta, xtp, xtn, xtl⟩, xs⟩, s3⟩ := r
  refine WQ.runS [5] 1000 _ _ _ _ rfl (WQ.nilS ?_)
  repeat (refine WR.seq ?_)
  refine WR.condT rfl ?_
  repeat (refine WR.seq ?_)
  refine WR.reg (WQ.runS [5] 1 _ _ _ _ rfl ?_)
  refine WQ.callH rfl rfl rfl rfl rfl (ex _) (.put .base rfl) rfl ?_
  refine WQ.runS [5] 1000 _ _ _ _ rfl (WQ.nilS ?_)
  repeat (refine WR.seq ?_)
  refine WR.reg (WQ.runS [5] 1 _ _ _ _ rfl ?_)
  cases hb : f.block d s3 with
  | none => simp only [hb] at he; cases he
  | some q =>
   obtain ⟨b, s4⟩ := q
   simp only [hb] at he
   cases he
   refine WQ.callH rfl rfl rfl rfl rfl (block_at hf hd hx.len hb (by decide) rfl) (.put .base rfl) rfl ?_
   refine WQ.runS [5] 1000 _ _ _ _ rfl (WQ.nilS ?_)
   unfold rc37_J2
   repeat (refine WR.seq ?_)
   refine WR.reg (WQ.runS [5] 1000 _ _ _ _ rfl (WQ.nilS ?_))
   refine WR.ret ⟨rfl, rfl, ⟨_, rfl, by repeat (first | exact VLe.refl _ | exact VLe.unk _ _ | refine VLe.tup ?_ | refine VLe.agg ?_ | exact VLL.nil | refine VLL.cons ?_ ?_)⟩, fun b hb => og_one4 b hb⟩
 | false =>
 rw [h4] at he
 unfold setB at he
 rw [← ht, ← hu] at he
 refine WQ.runS [5] 1000 _ _ _ _ rfl (WQ.nilS ?_)
 refine WR.condF rfl ?_
 repeat (refine WR.seq ?_)
 refine WR.reg (WQ.runS [5] 3 _ _ _ _ rfl ?_)
 cases g1 : decide (t.k = 1) with
 | false =>
  rw [g1] at he
  have hx := expr_stp hP hs
  have ex := fun lc => exprS_at hP (d := d) (s := s) hs (h := ⟨1004, og (sL l d s t u (sC 0 p [] false zEx nilV nilV)), lc⟩) (R := 1000) (by decide) rfl
  generalize (exprS P s) = r at he hx ex
  obtain ⟨⟨xk, xa, xe, xn, xv, ⟨xtk, xta, xtp, xtn, xtl⟩, xs⟩, s3⟩ := r
  cases he
  refine WQ.runS [5] 1000 _ _ _ _ rfl (WQ.nilS ?_)
  refine WR.condF rfl ?_
  repeat (refine WR.seq ?_)
  refine WR.reg (WQ.runS [5] 1 _ _ _ _ rfl ?_)
  refine WQ.callH rfl rfl rfl rfl rfl (ex _) (.put .base rfl) rfl ?_
  refine WQ.runS [5] 1000 _ _ _ _ rfl (WQ.nilS ?_)
  repeat (refine WR.seq ?_)
  refine WR.reg (WQ.runS [5] 1 _ _ _ _ rfl ?_)
  refine WQ.callH rfl rfl rfl rfl rfl (mustS_at (x := [59]) hl hx.len (by decide) rfl) (.put .base rfl) rfl ?_
  refine WQ.runS [5] 1000 _ _ _ _ rfl (WQ.nilS ?_)
  unfold rc37_J2
  repeat (refine WR.seq ?_)
  refine WR.reg (WQ.runS [5] 1000 _ _ _ _ rfl (WQ.nilS ?_))
  refine WR.ret ⟨rfl, rfl, ⟨_, rfl, by repeat (first | exact VLe.refl _ | exact VLe.unk _ _ | refine VLe.tup ?_ | refine VLe.agg ?_ | exact VLL.nil | refine VLL.cons ?_ ?_)⟩, fun b hb => og_one4 b hb⟩
 | true =>
  rw [g1] at he
  refine WQ.runS [5] 5 _ _ _ _ rfl ?_
  cases g2 : decide (u.k = 4) with
  | false =>
   rw [g2] at he
   have hx := expr_stp hP hs
   have ex := fun lc => exprS_at hP (d := d) (s := s) hs (h := ⟨1004, og (sL l d s t u (sC 0 p [] false zEx nilV nilV)), lc⟩) (R := 1000) (by decide) rfl
   generalize (exprS P s) = r at he hx ex
   obtain ⟨⟨xk, xa, xe, xn, xv, ⟨xtk, xta, xtp, xtn, xtl⟩, xs⟩, s3⟩ := r
   cases he
   refine WQ.runS [5] 1000 _ _ _ _ rfl (WQ.nilS ?_)
   refine WR.condF rfl ?_
   repeat (refine WR.seq ?_)
   refine WR.reg (WQ.runS [5] 1 _ _ _ _ rfl ?_)
   refine WQ.callH rfl rfl rfl rfl rfl (ex _) (.put .base rfl) rfl ?_
   refine WQ.runS [5] 1000 _ _ _ _ rfl (WQ.nilS ?_)
   repeat (refine WR.seq ?_)
   refine WR.reg (WQ.runS [5] 1 _ _ _ _ rfl ?_)
   refine WQ.callH rfl rfl rfl rfl rfl (mustS_at (x := [59]) hl hx.len (by decide) rfl) (.put .base rfl) rfl ?_
   refine WQ.runS [5] 1000 _ _ _ _ rfl (WQ.nilS ?_)
   unfold rc37_J2
   repeat (refine WR.seq ?_)
   refine WR.reg (WQ.runS [5] 1000 _ _ _ _ rfl (WQ.nilS ?_))
   refine WR.ret ⟨rfl, rfl, ⟨_, rfl, by repeat (first | exact VLe.refl _ | exact VLe.unk _ _ | refine VLe.tup ?_ | refine VLe.agg ?_ | exact VLL.nil | refine VLL.cons ?_ ?_)⟩, fun b hb => og_one4 b hb⟩
  | true =>
   rw [g2] at he
   refine WQ.runS [5] 5 _ _ _ _ rfl ?_
   cases g3 : decide (u.t = [61]) with
   | false =>
    rw [g3] at he
    have hx := expr_stp hP hs
    have ex := fun lc => exprS_at hP (d := d) (s := s) hs (h := ⟨1004, og (sL l d s t u (sC 0 p [] false zEx nilV nilV)), lc⟩) (R := 1000) (by decide) rfl
    generalize (exprS P s) = r at he hx ex
    obtain ⟨⟨xk, xa, xe, xn, xv, ⟨xtk, xta, xtp, xtn, xtl⟩, xs⟩, s3⟩ := r
    cases he
    refine WQ.runS [5] 1000 _ _ _ _ rfl (WQ.nilS ?_)
    refine WR.condF rfl ?_
    repeat (refine WR.seq ?_)
    refine WR.reg (WQ.runS [5] 1 _ _ _ _ rfl ?_)
    refine WQ.callH rfl rfl rfl rfl rfl (ex _) (.put .base rfl) rfl ?_
    refine WQ.runS [5] 1000 _ _ _ _ rfl (WQ.nilS ?_)
    repeat (refine WR.seq ?_)
    refine WR.reg (WQ.runS [5] 1 _ _ _ _ rfl ?_)
    refine WQ.callH rfl rfl rfl rfl rfl (mustS_at (x := [59]) hl hx.len (by decide) rfl) (.put .base rfl) rfl ?_
    refine WQ.runS [5] 1000 _ _ _ _ rfl (WQ.nilS ?_)
    unfold rc37_J2
    repeat (refine WR.seq ?_)
    refine WR.reg (WQ.runS [5] 1000 _ _ _ _ rfl (WQ.nilS ?_))
    refine WR.ret ⟨rfl, rfl, ⟨_, rfl, by repeat (first | exact VLe.refl _ | exact VLe.unk _ _ | refine VLe.tup ?_ | refine VLe.agg ?_ | exact VLL.nil | refine VLL.cons ?_ ?_)⟩, fun b hb => og_one4 b hb⟩
   | true =>
    rw [g3] at he
    have h0 := now_lt (l := l) (a := s.a) (by rw [← ht, of_decide_eq_true g1]; decide)
    have he := Option.some.inj he
    have vc := val_core hP hl d (nextS s) h0 2 p t.t t u
    unfold valS at he vc
    generalize (exprS P (mustS l (nextS s) [61])) = r at he vc
    obtain ⟨⟨xk, xa, xe, xn, xv, ⟨xtk, xta, xtp, xtn, xtl⟩, xs⟩, s3⟩ := r
    cases he
    refine WQ.runS [5] 1000 _ _ _ _ rfl (WQ.nilS ?_)
    repeat (refine WR.seq ?_)
    refine WR.condT rfl ?_
    repeat (refine WR.seq ?_)
    refine WR.reg (WQ.runS [5] 5 _ _ _ _ rfl ?_)
    rw [nextB (by show s.a < big; unfold big; omega)]
    refine WQ.runS [5] 1000 _ _ _ _ rfl (WQ.nilS ?_)
    repeat (refine WR.seq ?_)
    refine WR.reg (WQ.runS [5] 1000 _ _ _ _ rfl (WQ.nilS ?_))
    repeat (refine WR.seq ?_)
    refine WR.reg (WQ.runS [5] 1 _ _ _ _ rfl ?_)
    refine WQ.callH rfl rfl rfl rfl rfl (SCall.relc vc _) .base rfl ?_
    refine WQ.runS [5] 1000 _ _ _ _ rfl (WQ.nilS ?_)
    unfold rc37_J2
    repeat (refine WR.seq ?_)
    refine WR.reg (WQ.runS [5] 1000 _ _ _ _ rfl (WQ.nilS ?_))
    refine WR.ret ⟨rfl, rfl, ⟨_, rfl, by repeat (first | exact VLe.refl _ | exact VLe.unk _ _ | refine VLe.tup ?_ | refine VLe.agg ?_ | exact VLL.nil | refine VLL.cons ?_ ?_)⟩, fun b hb => og_one4 b hb⟩
theorem stmt_core {l : List Tz} {P : Nat → R Ex} (hP : ParseOk l P) (hl : l.length < 4294967296) {f : Sf} (hf : SpecS l f) (iv : InvS l f) (d : Nat) (hd : d ≤ 30) (s : Sr) (hs : s.a ≤ l.length) {v : Sx} {s' : Sr} (he : sStmt l P f d s = some (v, s')) :
  SCall Go.Proofs.Tryd.prog [] 37 [.ptr 1000 0] none ⟨1001, og (srL l d s), []⟩ (.ret (.agg (encSx v))) none ⟨1001, og (srL l d s'), []⟩ := by
 have hz : ∀ (i j : Nat) (cs cs' : List V), SCall Go.Proofs.Tryd.prog [] 34 [.ptr 1000 0, .int .i64 i] none ⟨1003, og [(1000, srO l d s), (1001, .cells false cs), (1002, .cells false cs')], []⟩ (.ret (.agg (encTz (nowF l i)))) none ⟨1003, og [(1000, srO l d s), (1001, .cells false cs), (1002, .cells false cs')], []⟩ := fun i j cs cs' => tokS_at hl (by decide) rfl
 obtain ⟨r1, r2, r3, r4, r, h4⟩ : ∃ r1 r2 r3 r4 r, rc37 = .seq r1 (.seq r2 (.seq r3 (.seq r4 r))) := by unfold rc37; exact ⟨_, _, _, _, _, rfl⟩
 have body := fun tm lc htm hlc => stmt_body hP hl hf iv d hd s hs he h4 (t := nowF l s.a) (u := nowF l (s.a + 1)) rfl rfl (p := (nowF l s.a).a) rfl (tm := tm) htm (lc := lc) hlc
 refine SCall.listedR (fn := Go.Proofs.Tryd.f37) (by kernel_rfl) res37 (by kernel_rfl) (by kernel_rfl) (Nat.le_refl _) rfl (srL_in _ _ _) (by exact encSx_in _) ?_
 unfold rc37 at h4 ⊢
 cases h4
 repeat (refine WR.seq ?_)
 refine WR.reg (WQ.runS [] 1000 _ _ _ _ rfl (WQ.nilS ?_))
 repeat (refine WR.seq ?_)
 refine WR.dreg hmix (DW.runS [] 11 _ _ _ _ _ _ rfl ?_)
 rw [nextB (by unfold big; omega)]
 refine DW.runS [] 1000 _ _ _ _ _ _ rfl ?_
 refine DW.callH (by repeat (first | exact .nil | refine PendR.passM rfl ?_ | refine PendR.sameM rfl ?_ | refine PendR.lightM rfl ?_)) rfl rfl rfl rfl rfl (SCall.relc (hz s.a 0 _ _) _) .base rfl (DW.runS [] 1000 _ _ _ _ _ _ rfl ?_)
 refine DW.callH (by repeat (first | exact .nil | refine PendR.passM rfl ?_ | refine PendR.sameM rfl ?_ | refine PendR.lightM rfl ?_)) rfl rfl rfl rfl rfl (SCall.relc (hz (s.a + 1) 0 _ _) _) .base rfl (DW.runS [] 1000 _ _ _ _ _ _ rfl ?_)
 refine DW.stS (by repeat (first | exact .nil | refine PendR.passM rfl ?_ | refine PendR.sameM rfl ?_ | refine PendR.lightM rfl ?_)) rfl rfl rfl rfl (DW.runS [] 1000 _ _ _ _ _ _ rfl ?_)
 refine DW.stS (by repeat (first | exact .nil | refine PendR.passM rfl ?_ | refine PendR.sameM rfl ?_ | refine PendR.lightM rfl ?_)) rfl rfl rfl rfl (DW.runS [] 1000 _ _ _ _ _ _ rfl (DW.finS (by repeat (first | exact .nil | refine PendR.passM rfl ?_ | refine PendR.sameM rfl ?_ | refine PendR.lightM rfl ?_)) ?_))
 repeat (refine WR.seq ?_)
 refine WR.reg (WQ.runS [5] 1000 _ _ _ _ rfl (WQ.nilS ?_))
 refine WR.seq (WR.reg (WQ.runS [5] 1000 _ _ _ _ rfl (WQ.nilS ?_)))
 refine body _ _ ?_ ?_
 ·repeat (first | exact .nil | refine .cons rfl (.v (VLe.refl _)) ?_ | refine .cons rfl (.l _ _ rfl) ?_)
 ·repeat (first | exact .nil | refine .cons rfl (.inl rfl) ?_)
end Go.VM
end
section
/- Statements: a block. -/
set_option maxRecDepth 100000
set_option linter.unusedVariables false
set_option linter.unusedSimpArgs false
namespace Go.VM
open Go.RowKit
def lvS : List Sx → V
 | [] => .lst [] (.ex 0)
 | x :: l => .lst ((x :: l).map encSx) (.tk 1001)
def rowS : List Sx → OL
 | [] => []
 | x :: l => [(1001, .tok (x :: l).length)]
def nxS : List Sx → Nat
 | [] => 1001
 | _ :: _ => 1002
def blM (l : List Tz) (d : Nat) (s : Sr) (acc : List Sx) : OL := (1000, srO l d s) :: rowS acc
def blTm (acc : List Sx) : TM := [(0, .v (.ptr 1000 0)), (2, .v (lvS acc))]
theorem rowS_low {o : Obj} (acc : List Sx) (b : Nat) (h : b < 1001) : og [(1000, o)] b = og ((1000, o) :: rowS acc) b := by
 cases acc with
 | nil => rfl
 | cons p l =>
  simp only [rowS, og_cons]
  split
  ·rfl
  ·rw [if_neg (by omega)]
theorem lvS_le (acc : List Sx) : VLe (lvS acc) (.lst (encSxs acc) .unk) := by
 rw [encSxs_map]
 cases acc with
 | nil => exact VLe.unk _ _
 | cons x l => exact VLe.unk _ _
theorem stmt_at {l : List Tz} {f : Sf} (hf : SpecS l f) {d : Nat} (hd : d ≤ 30) {s : Sr} (hs : s.a ≤ l.length) {v : Sx} {s' : Sr} (e : f.stmt d s = some (v, s')) {h : H} {R : Nat} (hR : glim ≤ R) (h1 : h.ob R = some (srO l d s)) :
  SCall Go.Proofs.Tryd.prog [] 37 [.ptr R 0] none h (.ret (.agg (encSx v))) none (h.put R (srO l d s')) :=
 sat_any (hf.stmt d s v s' hd hs e) trivial (encSx_in _) hR h1
theorem loop_walk {QN : S → Prop} {QX : X → S → Prop} {l : List Tz} {P : Nat → R Ex} (hP : ParseOk l P) (hl : l.length < 20000) (d : Nat) : ∀ (n : Nat) (hsp : ∀ m, m < n → SpecS l (sfns l P m)) (acc : List Sx) (s : Sr) (v : List Sx) (s' : Sr),
  (sfns l P n).loop d acc s = some (v, s') → s.a ≤ l.length → (s.c = 0 → acc.length ≤ s.a ∧ d ≤ 30) → (∀ tm, TellT tm [] (blTm v) → QX (.exit 0) (SL.toS ⟨tm, [], none, nxS v, blM l d s' v, []⟩)) →
  WLr Go.Proofs.Tryd.prog [] ⟨Go.Proofs.Tryd.f25.ntmps, none, 25⟩ rc25_L1 (SL.toS ⟨blTm acc, [], none, nxS acc, blM l d s acc, []⟩) QN QX := by
 intro n
 induction n with
 | zero => intro _ acc s v s' e; cases e
 | succ n ih =>
  intro hsp acc s v s' e hs hd h0
  have hl' : l.length < 4294967296 := by omega
  have e : sLoop l (sfns l P n) d acc s = some (v, s') := e
  unfold sLoop at e
  have hf := fun nx rw => fineS_at (l := l) (d := d) (s := s) (h := ⟨nx, og ((1000, srO l d s) :: rw), []⟩) (R := 1000) (by decide) rfl
  unfold rc25_L1
  refine WLr.of ?_
  repeat (refine WR.seq ?_)
  refine WR.reg (WQ.runS [] 1 _ _ _ _ rfl ?_)
  refine WQ.callH rfl rfl rfl rfl rfl (hf _ _) .base rfl ?_
  cases h1 : fineS s with
  | false =>
   rw [h1] at e
   cases e
   refine WQ.runS [] 1000 _ _ _ _ rfl (WQ.nilS ?_)
   repeat (refine WR.seq ?_)
   refine WR.condF rfl (WR.exit (h0 _ ?_))
   repeat (first | exact .nil | refine .cons rfl (.v (VLe.refl _)) ?_)
  | true =>
   rw [h1] at e
   have hc0 := fineS_c.1 h1
   obtain ⟨hacc, hd30⟩ := hd hc0
   have hi := fun nx rw => isS_at (l := l) (d := d) (s := s) (k := 4) (x := [125]) hl' hs (h := ⟨nx, og ((1000, srO l d s) :: rw), []⟩) (R := 1000) (by decide) rfl
   unfold isN at hi
   refine WQ.runS [] 1000 _ _ _ _ rfl (WQ.nilS ?_)
   repeat (refine WR.seq ?_)
   refine WR.condT rfl (WR.skip ?_)
   repeat (refine WR.seq ?_)
   refine WR.block ?_
   repeat (refine WR.seq ?_)
   refine WR.reg (WQ.runS [] 1 _ _ _ _ rfl ?_)
   refine WQ.callH rfl rfl rfl rfl rfl (hi _ _) (.put .base rfl) rfl ?_
   cases h2 : isS l s 4 [125] with
   | true =>
    rw [h2] at e
    cases e
    refine WQ.runS [] 1000 _ _ _ _ rfl (WQ.nilS ?_)
    repeat (refine WR.seq ?_)
    refine WR.condT rfl (WR.exit (h0 _ ?_))
    repeat (first | exact .nil | refine .cons rfl (.v (VLe.refl _)) ?_)
   | false =>
    rw [h2] at e
    cases h3 : (sfns l P n).stmt d s with
    | none => simp only [h3] at e; cases e
    | some q =>
     obtain ⟨x, s1⟩ := q
     simp only [h3] at e
     have st := (sfns_inv hP n).stmt _ _ _ _ hs h3
     have sx := fun nx rw => stmt_at (hsp n (by omega)) hd30 hs h3 (h := ⟨nx, og ((1000, srO l d s) :: rw), []⟩) (R := 1000) (by decide) rfl
     have ih := ih (fun m hm => hsp m (by omega)) (acc ++ [x]) s1 v s' e st.len (fun hc => ⟨by have := st.lt hc; simp; omega, hd30⟩) h0
     obtain ⟨xk, xa, xn, xh, ⟨yk, ya, ye, yn, yv, ⟨ytk, yta, ytp, ytn, ytl⟩, ys⟩, xb, xe⟩ := x
     refine WQ.runS [] 1000 _ _ _ _ rfl (WQ.nilS ?_)
     repeat (refine WR.seq ?_)
     refine WR.condF rfl (WR.skip ?_)
     cases acc with
     | nil =>
      repeat (refine WR.seq ?_)
      refine WR.reg (WQ.runS [] 2 _ _ _ _ rfl ?_)
      refine WQ.callH rfl rfl rfl rfl rfl (sx _ _) (.put .base rfl) rfl ?_
      refine WQ.runS [] 1 _ _ _ _ rfl ?_
      refine WQ.doesS rfl (app_exR (n2 := 1) (es2 := [encSx (.mk xk xa xn xh (.mk yk ya ye yn yv (.mk ytk yta ytp ytn ytl) ys) xb xe)]) rfl rfl (Nat.zero_lt_one) (by simp) (by simp) (by show 232 * 1 ≤ lim; decide) rfl rfl rfl rfl) rfl ?_
      refine WQ.runS [] 1000 _ _ _ _ rfl (WQ.nilS ?_)
      refine WIr.again (WLr.weak ?_ ih)
      refine SW.tellR ?_ ?_
      ·repeat (first | exact .nil | refine .cons rfl (.v (VLe.refl _)) ?_ | refine .cons rfl (.l _ _ rfl) ?_ | refine .cons rfl (.v (VLe.unk _ _)) ?_)
      ·repeat (first | exact .nil | refine .cons rfl (.inl rfl) ?_)
     | cons q r =>
      repeat (refine WR.seq ?_)
      refine WR.reg (WQ.runS [] 2 _ _ _ _ rfl ?_)
      refine WQ.callH rfl rfl rfl rfl rfl (sx _ _) (.put .base rfl) rfl ?_
      refine WQ.runS [] 1 _ _ _ _ rfl ?_
      refine WQ.doesS rfl (app_tkR (n := (q :: r).length) (n2 := (q :: r ++ [Sx.mk xk xa xn xh (.mk yk ya ye yn yv (.mk ytk yta ytp ytn ytl) ys) xb xe]).length) (es2 := (q :: r ++ [Sx.mk xk xa xn xh (.mk yk ya ye yn yv (.mk ytk yta ytp ytn ytl) ys) xb xe]).map encSx) rfl rfl rfl (List.length_map ..).symm ?_ ?_ ?_ rfl ?_ ?_ rfl) rfl ?_
      ·intro e he
       obtain ⟨y, _, rfl⟩ := List.mem_map.1 (show e ∈ (q :: r).map encSx from he)
       exact encSx_len y
      ·simp
      ·simp only [List.length_map, List.length_cons, List.length_nil] at hacc ⊢; unfold lim; omega
      ·rw [List.map_append]; rfl
      ·simp
      refine WQ.runS [] 1000 _ _ _ _ rfl (WQ.nilS ?_)
      refine WIr.again (WLr.weak ?_ ih)
      refine SW.tellR ?_ ?_
      ·repeat (first | exact .nil | refine .cons rfl (.v (VLe.refl _)) ?_ | refine .cons rfl (.l _ _ rfl) ?_ | refine .cons rfl (.v (VLe.unk _ _)) ?_)
      ·repeat (first | exact .nil | refine .cons rfl (.inl rfl) ?_)
end Go.VM
end
section
/- Statements: a block; all of it. -/
set_option maxRecDepth 100000
set_option linter.unusedVariables false
set_option linter.unusedSimpArgs false
namespace Go.VM
open Go.RowKit
theorem must_dead {l : List Tz} {s : Sr} {x : List Nat} (h : ¬ (fineS s = true ∧ isF l s.a 4 x = true)) : (mustS l s x).c ≠ 0 := by
 unfold mustS isS
 cases hf : fineS s with
 | false =>
  have h1 : ¬ s.c = 0 := of_decide_eq_false hf
  unfold failS
  rw [hf]
  exact h1
 | true =>
  cases hi : isF l s.a 4 x with
  | true => exact absurd ⟨hf, hi⟩ h
  | false =>
   unfold failS
   rw [hf]
   show (5 : Int) ≠ 0
   decide
theorem block_rest {QN : S → Prop} {QX : X → S → Prop} {l : List Tz} {P : Nat → R Ex} (hP : ParseOk l P) (hl : l.length < 20000) (n : Nat) (hsp : ∀ m, m < n → SpecS l (sfns l P m)) (d : Nat) (hd : d ≤ 30) (s : Sr) (hs : s.a ≤ l.length) {v : List Sx} {s' : Sr} (he : sBlock l (sfns l P n) d s = some (v, s')) (hdp : deepB l d s = false)
  {r1 r2 r : RC} (h4 : rc25 = .seq r1 (.scope (.seq r2 r))) {tm : TM} (htm : TellT tm [] (blTm [])) (hq : ∀ st, EndN Go.Proofs.Tryd.prog Go.Proofs.Tryd.f25 (.ret (.lst (encSxs v) .unk)) 1001 (srL l d s') st → QX .ret st) :
  WR Go.Proofs.Tryd.prog [] ⟨Go.Proofs.Tryd.f25.ntmps, none, 25⟩ r (SL.toS ⟨tm, [], none, 1001, srL l d s, []⟩) QN QX := by
 have hl' : l.length < 4294967296 := by omega
 refine WR.weak (SW.tellR htm .nil) ?_
 unfold rc25 at h4
 cases h4
 unfold sBlock at he
 rw [hdp] at he
 have hm := must_stp hs (x := [123])
 have hd2 : (mustS l s [123]).c = 0 → d + 1 ≤ 30 := by
  intro hc
  rcases Nat.lt_or_ge d 30 with h | h
  ·omega
  ·exfalso
   have h30 : d = 30 := by omega
   refine must_dead (l := l) (s := s) (x := [123]) ?_ hc
   intro ⟨q1, q2⟩
   unfold isF at q2
   unfold deepB at hdp
   rw [q1, q2, decide_eq_true h30] at hdp
   cases hdp
 repeat (refine WR.seq ?_)
 refine WR.reg (WQ.runS [] 1 _ _ _ _ rfl ?_)
 refine WQ.callH rfl rfl rfl rfl rfl (mustS_at (l := l) (d := d) (s := s) (x := [123]) hl' hs (by decide) rfl) (.put .base rfl) rfl ?_
 refine WQ.runS [] 1000 _ _ _ _ rfl (WQ.nilS ?_)
 repeat (refine WR.seq ?_)
 refine WR.reg (WQ.runS [] 5 _ _ _ _ rfl ?_)
 rw [nextB (by unfold big; omega)]
 refine WQ.runS [] 1000 _ _ _ _ rfl (WQ.nilS ?_)
 refine WR.seq (WR.skip ?_)
 repeat (refine WR.seq ?_)
 refine WR.block (WR.loop (WLr.weak (s := SL.toS ⟨blTm [], [], none, nxS [], blM l (d + 1) (mustS l s [123]) [], []⟩) ?_ (loop_walk hP hl (d + 1) n hsp [] (mustS l s [123]) v s' he hm.len (fun hc => ⟨Nat.zero_le _, hd2 hc⟩) (fun tm ht => ?_))))
 ·refine SW.tellR ?_ ?_
  ·repeat (first | exact .nil | refine .cons rfl (.v (VLe.refl _)) ?_ | refine .cons rfl (.l _ _ rfl) ?_ | refine .cons rfl (.v (VLe.unk _ _)) ?_)
  ·repeat (first | exact .nil | refine .cons rfl (.inl rfl) ?_)
 ·refine WR.weak (SW.tellR ht .nil) ?_
  unfold rc25_J1
  repeat (refine WR.seq ?_)
  refine WR.reg (WQ.runS [] 5 _ _ _ _ rfl ?_)
  rw [subB1 (by omega) (by unfold big; omega), Nat.add_sub_cancel]
  refine WQ.runS [] 1000 _ _ _ _ rfl (WQ.nilS ?_)
  repeat (refine WR.seq ?_)
  refine WR.reg (WQ.runS [] 1000 _ _ _ _ rfl (WQ.nilS ?_))
  exact WR.ret (hq _ ⟨rfl, rfl, ⟨_, rfl, lvS_le v⟩, fun b hb => rowS_low v b hb⟩)
theorem block_core {l : List Tz} {P : Nat → R Ex} (hP : ParseOk l P) (hl : l.length < 20000) (n : Nat) (hsp : ∀ m, m < n → SpecS l (sfns l P m)) (d : Nat) (hd : d ≤ 30) (s : Sr) (hs : s.a ≤ l.length) {v : List Sx} {s' : Sr} (he : sBlock l (sfns l P n) d s = some (v, s')) :
  SCall Go.Proofs.Tryd.prog [] 25 [.ptr 1000 0] none ⟨1001, og (srL l d s), []⟩ (.ret (.lst (encSxs v) .unk)) none ⟨1001, og (srL l d s'), []⟩ := by
 have hl' : l.length < 4294967296 := by omega
 have hf := fineS_at (l := l) (d := d) (s := s) (h := ⟨1001, og (srL l d s), []⟩) (R := 1000) (by decide) rfl
 have ht := tokS_at (l := l) (d := d) (s := s) (i := s.a) hl' (h := ⟨1001, og (srL l d s), []⟩) (R := 1000) (by decide) rfl
 obtain ⟨r1, r2, r, h4⟩ : ∃ r1 r2 r, rc25 = .seq r1 (.scope (.seq r2 r)) := by unfold rc25; exact ⟨_, _, _, rfl⟩
 have rest := fun QN QX hdp tm htm hq => block_rest (QN := QN) (QX := QX) hP hl n hsp d hd s hs he hdp h4 (tm := tm) htm hq
 refine SCall.listedR (fn := Go.Proofs.Tryd.f25) (by kernel_rfl) res25 (by kernel_rfl) (by kernel_rfl) (Nat.le_refl _) rfl (srL_in _ _ _) (by exact ⟨encSxs_in _, trivial⟩) ?_
 unfold deepB at rest
 unfold sBlock deepB at he
 unfold rc25 at h4 ⊢
 cases h4
 repeat (refine WR.seq ?_)
 refine WR.reg (WQ.runS [] 1000 _ _ _ _ rfl (WQ.nilS ?_))
 refine WR.scope ?_
 repeat (refine WR.seq ?_)
 refine WR.reg (WQ.runS [] 4 _ _ _ _ rfl ?_)
 cases h30 : decide (d = 30) with
 | false =>
  have : decide ((d : Int) = 30) = false := decide_eq_false (by have := of_decide_eq_false h30; omega)
  rw [h30] at rest
  refine WQ.runS [] 1 _ _ _ _ rfl ?_
  rw [this]
  refine WQ.runS [] 1000 _ _ _ _ rfl (WQ.nilS ?_)
  refine WR.condF rfl (WR.skip ?_)
  refine rest _ _ rfl _ ?_ (fun _ h => h)
  repeat (first | exact .nil | refine .cons rfl (.v (VLe.refl _)) ?_)
 | true =>
  have : decide ((d : Int) = 30) = true := decide_eq_true (by have := of_decide_eq_true h30; omega)
  rw [h30] at rest he
  refine WQ.runS [] 1 _ _ _ _ rfl ?_
  rw [this]
  refine WQ.runS [] 2 _ _ _ _ rfl ?_
  refine WQ.callH rfl rfl rfl rfl rfl hf .base rfl ?_
  cases h1 : fineS s with
  | false =>
   rw [h1] at rest
   refine WQ.runS [] 1000 _ _ _ _ rfl (WQ.nilS ?_)
   refine WR.condF rfl (WR.skip ?_)
   refine rest _ _ rfl _ ?_ (fun _ h => h)
   repeat (first | exact .nil | refine .cons rfl (.v (VLe.refl _)) ?_)
  | true =>
   rw [h1] at rest he
   refine WQ.runS [] 8 _ _ _ _ rfl ?_
   refine WQ.callH rfl rfl rfl rfl rfl ht .base rfl ?_
   refine WQ.runS [] 2 _ _ _ _ rfl ?_
   cases hk : decide ((nowF l s.a).k = 4) with
   | false =>
    rw [hk] at rest
    refine WQ.runS [] 1000 _ _ _ _ rfl (WQ.nilS ?_)
    refine WR.condF rfl (WR.skip ?_)
    refine rest _ _ rfl _ ?_ (fun _ h => h)
    repeat (first | exact .nil | refine .cons rfl (.v (VLe.refl _)) ?_)
   | true =>
    rw [hk] at rest he
    refine WQ.runS [] 7 _ _ _ _ rfl ?_
    refine WQ.callH rfl rfl rfl rfl rfl ht .base rfl ?_
    refine WQ.runS [] 2 _ _ _ _ rfl ?_
    cases hx : decide ((nowF l s.a).t = [123]) with
    | false =>
     rw [hx] at rest
     refine WQ.runS [] 1000 _ _ _ _ rfl (WQ.nilS ?_)
     refine WR.condF rfl (WR.skip ?_)
     refine rest _ _ rfl _ ?_ (fun _ h => h)
     repeat (first | exact .nil | refine .cons rfl (.v (VLe.refl _)) ?_)
    | true =>
     rw [hx] at he
     cases he
     have fl := failS_at (l := l) (d := d) (s := s) (c := 6) hl' (h := ⟨1001, og (srL l d s), []⟩) (R := 1000) (by decide) rfl
     refine WQ.runS [] 1000 _ _ _ _ rfl (WQ.nilS ?_)
     refine WR.condT rfl ?_
     repeat (refine WR.seq ?_)
     refine WR.reg (WQ.runS [] 1 _ _ _ _ rfl ?_)
     refine WQ.callH rfl rfl rfl rfl rfl fl (.put .base rfl) rfl ?_
     refine WQ.runS [] 1000 _ _ _ _ rfl (WQ.nilS ?_)
     repeat (refine WR.seq ?_)
     refine WR.reg (WQ.runS [] 1000 _ _ _ _ rfl (WQ.nilS ?_))
     refine WR.ret ⟨rfl, rfl, ⟨_, rfl, by repeat (first | exact VLe.refl _ | exact VLe.unk _ _ | refine VLe.tup ?_ | refine VLe.agg ?_ | exact VLL.nil | refine VLL.cons ?_ ?_)⟩, fun b _ => rfl⟩
theorem stmts_all {l : List Tz} {P : Nat → R Ex} (hP : ParseOk l P) (hl : l.length < 20000) : ∀ n, ∀ m, m < n → SpecS l (sfns l P m) := by
 intro n
 induction n with
 | zero => intro m hm; omega
 | succ n ih =>
  intro m hm
  rcases Nat.lt_or_ge m n with h | h
  ·exact ih m h
  have : m = n := by omega
  subst this
  cases m with
  | zero => exact ⟨fun _ _ _ _ _ _ e => (by cases e), fun _ _ _ _ _ _ e => (by cases e)⟩
  | succ m =>
   exact ⟨fun d s v s' hd hs e => block_core hP hl m (fun k hk => ih k (by omega)) d hd s hs e, fun d s v s' hd hs e => stmt_core hP (by omega) (ih m (by omega)) (sfns_inv hP m) d hd s hs e⟩
theorem og_lowS {o : Obj} (b : Nat) (h : b < 1000) : og [] b = og [(1000, o)] b := by
 simp only [og_cons]
 rw [if_neg (by omega)]
def stV (r : List Sx × Sr) : V := match fineS r.2 with
 | true => .tup [.lst (encSxs r.1) .unk, .int .i64 r.2.a, .agg (dgX 0 0)]
 | false => .tup [.lst [] (.ex 0), .int .i64 0, .agg (dgX r.2.p r.2.c)]
theorem stV_in {D : Nat → Prop} (r : List Sx × Sr) : (stV r).In D := by
 unfold stV
 cases fineS r.2 with
 | true => exact ⟨⟨encSxs_in _, trivial⟩, trivial, ⟨trivial, trivial, trivial⟩, trivial⟩
 | false => exact ⟨⟨trivial, trivial⟩, trivial, ⟨trivial, trivial, trivial⟩, trivial⟩
theorem sparse_core {l : List Tz} {P : Nat → R Ex} (hP : ParseOk l P) (hl : l.length < 20000) (n a : Nat) (ha : a ≤ l.length) {r : List Sx × Sr} (he : (sfns l P n).block 0 ⟨a, 0, 0⟩ = some r) :
  SCall Go.Proofs.Tryd.prog [] 17 [lsV l, .int .i64 a] none ⟨1000, og [], []⟩ (.ret (stV r)) none ⟨1000, og [], []⟩ := by
 obtain ⟨v, s'⟩ := r
 have bk := (stmts_all hP hl (n + 1) n (by omega)).block 0 ⟨a, 0, 0⟩ v s' (by omega) ha he
 have hf := fineS_at (l := l) (d := 0) (s := s') (h := ⟨1001, og (srL l 0 s'), []⟩) (R := 1000) (by decide) rfl
 refine SCall.listed (fn := Go.Proofs.Tryd.f17) (by kernel_rfl) res17 (by kernel_rfl) (by kernel_rfl) (Nat.le_refl _) rfl (trivial) (by exact stV_in _) ?_
 unfold rc17
 unfold lsV
 repeat (refine WR.seq ?_)
 refine WR.reg (WQ.runS [] 1000 _ _ _ _ rfl (WQ.nilS ?_))
 refine WR.seq (WR.reg (WQ.runS [7, 12] 1000 _ _ _ _ rfl (WQ.nilS ?_)))
 repeat (refine WR.seq ?_)
 refine WR.reg (WQ.runS [] 2 _ _ _ _ rfl ?_)
 rw [show decide ((a : Int) < 0) = false from decide_eq_false (by omega)]
 refine WQ.runS [] 4 _ _ _ _ rfl ?_
 rw [List.length_map]
 refine WQ.runS [] 1 _ _ _ _ rfl ?_
 rw [show decide ((a : Int) > (l.length : Int)) = false from decide_eq_false (by omega)]
 refine WQ.runS [] 1000 _ _ _ _ rfl (WQ.nilS ?_)
 repeat (refine WR.seq ?_)
 refine WR.condF rfl (WR.skip ?_)
 unfold rc17_J1
 repeat (refine WR.seq ?_)
 refine WR.reg (WQ.runS [] 1 _ _ _ _ rfl ?_)
 refine WQ.callH rfl rfl rfl rfl rfl (sat_any bk trivial (by exact ⟨encSxs_in _, trivial⟩) (h := ⟨1001, og [(1000, srO l 0 ⟨a, 0, 0⟩)], [(6, [.int .i64 0, .int .i64 0])]⟩) (R := 1000) (by decide) rfl) (.put .base rfl) rfl ?_
 refine WQ.runS [] 1000 _ _ _ _ rfl (WQ.nilS ?_)
 repeat (refine WR.seq ?_)
 refine WR.reg (WQ.runS [] 1 _ _ _ _ rfl ?_)
 refine WQ.callH rfl rfl rfl rfl rfl (SCall.relc hf _) .base rfl ?_
 cases h1 : fineS s' with
 | false =>
  have e : stV (v, s') = .tup [.lst [] (.ex 0), .int .i64 0, .agg (dgX s'.p s'.c)] := by unfold stV; rw [h1]
  rw [e]
  refine WQ.runS [] 1000 _ _ _ _ rfl (WQ.nilS ?_)
  repeat (refine WR.seq ?_)
  refine WR.condT rfl ?_
  refine WR.seq (WR.dreg hmix (DW.runS [] 1000 _ _ _ _ _ _ rfl ?_))
  refine DW.stS (by repeat (first | exact .nil | refine PendR.passM rfl ?_ | refine PendR.sameM rfl ?_ | refine PendR.lightM rfl ?_)) rfl rfl rfl rfl (DW.runS [] 1000 _ _ _ _ _ _ rfl (DW.finS (by repeat (first | exact .nil | refine PendR.passM rfl ?_ | refine PendR.sameM rfl ?_ | refine PendR.lightM rfl ?_)) ?_))
  exact WR.ret ⟨rfl, rfl, ⟨_, rfl, by repeat (first | exact VLe.refl _ | exact VLe.unk _ _ | refine VLe.tup ?_ | refine VLe.agg ?_ | exact VLL.nil | refine VLL.cons ?_ ?_)⟩, fun b hb => og_lowS b hb⟩
 | true =>
  have e : stV (v, s') = .tup [.lst (encSxs v) .unk, .int .i64 s'.a, .agg (dgX 0 0)] := by unfold stV; rw [h1]
  rw [e]
  refine WQ.runS [] 1000 _ _ _ _ rfl (WQ.nilS ?_)
  repeat (refine WR.seq ?_)
  refine WR.condF rfl (WR.skip ?_)
  refine WR.seq (WR.dreg hmix (DW.runS [] 1000 _ _ _ _ _ _ rfl ?_))
  refine DW.stS (by repeat (first | exact .nil | refine PendR.passM rfl ?_ | refine PendR.sameM rfl ?_ | refine PendR.lightM rfl ?_)) rfl rfl rfl rfl (DW.runS [] 1000 _ _ _ _ _ _ rfl (DW.finS (by repeat (first | exact .nil | refine PendR.passM rfl ?_ | refine PendR.sameM rfl ?_ | refine PendR.lightM rfl ?_)) ?_))
  exact WR.ret ⟨rfl, rfl, ⟨_, rfl, by repeat (first | exact VLe.refl _ | exact VLe.unk _ _ | refine VLe.tup ?_ | refine VLe.agg ?_ | exact VLL.nil | refine VLL.cons ?_ ?_)⟩, fun b hb => og_lowS b hb⟩
theorem sparse_sp {l : List Tz} {P : Nat → R Ex} (hP : ParseOk l P) (hl : l.length < 20000) (n a : Nat) (ha : a ≤ l.length) {r : List Sx × Sr} (he : (sfns l P n).block 0 ⟨a, 0, 0⟩ = some r) (h : H) :
  SCall Go.Proofs.Tryd.prog [0] 17 [lsV l, .int .i64 a] none h (.ret (stV r)) none h :=
 SCall.more (SCall.pure0 rfl (sparse_core hP hl n a ha he) (by exact ⟨lsV_in l, trivial, trivial⟩) (by exact stV_in _) h)
theorem block_ends {l : List Tz} {P : Nat → R Ex} (hP : ParseOk l P) (a : Nat) (ha : a ≤ l.length) : ∃ N r, ∀ n, N ≤ n → (sfns l P n).block 0 ⟨a, 0, 0⟩ = some r := (totS hP l.length a (by omega) ha).block 0 ⟨a, 0, 0⟩ rfl
end Go.VM
end
