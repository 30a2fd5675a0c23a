/- laid for this seat: VzE VzF VzG VzH -/
import Derived.Test.YtipiffhjilidlaaDoorVg8
section
/- Statements: a name's value; one statement. -/
set_option maxRecDepth 100000
set_option linter.unusedVariables false
set_option linter.unusedSimpArgs false
namespace Go.VM
open Go.RowKit
def sC (k : Int) (p : Int) (nm : List Nat) (has : Bool) (xc : List V) (b e : V) : List V := [.int .i64 k, .int .i64 p, .str nm, .bool has] ++ (xc ++ [b, e])
def eH : V := .lst [] (.ex 0)
def sL (l : List Tz) (d : Nat) (s : Sr) (t u : Tz) (cs : List V) : OL := [(1000, srO l d s), (1001, .cells false (dK t)), (1002, .cells false (dK u)), (1003, .cells false cs)]
theorem aVt {D : Nat → Prop} (l : List Tz) (d : Nat) (s : Sr) (t u : Tz) {cs : List V} (h : Ins D cs) : fR D (sL l d s t u cs) := ⟨aNo l d s, (by exact ⟨trivial, trivial, trivial, trivial, trivial⟩), (by exact ⟨trivial, trivial, trivial, trivial, trivial⟩), h, trivial⟩
theorem aUi {D : Nat → Prop} (k p : Int) (nm : List Nat) (has : Bool) : ∀ x : Ex, Ins D (sC k p nm has (cZ x) eH eH)
 | .mk xk xa xe xn xv (.mk tk ta tp tn tl) xs => ⟨trivial, trivial, trivial, trivial, trivial, trivial, trivial, trivial, trivial, trivial, trivial, trivial, trivial, ⟨kL tl, trivial⟩, ⟨kQ xs, trivial⟩, ⟨trivial, trivial⟩, ⟨trivial, trivial⟩, trivial⟩
theorem uF {l : List Tz} {P : Nat → R Ex} (hP : ParseOk l P) (hl : l.length < 4294967296) (d : Nat) (s : Sr) (hs : s.a ≤ l.length) (k : Nat) (p : Int) (nm : List Nat) (t u : Tz) :
  SCall Go.Proofs.Tryd.prog [] 56 [.ptr 1000 0, .ptr 1003 0, .int .i64 k] none ⟨1004, og (sL l d s t u (sC 0 p nm false zEx eH eH)), []⟩ (.ret (.tup [])) none ⟨1004, og (sL l d (lI l P k p nm s).2 t u (sC k p nm false (cZ (aU P (bP l s [61])).1) eH eH)), []⟩ := by
 have h1 := bL hs (x := [61])
 have h2 := bB hP h1.len
 unfold lI
 refine SCall.aV (fn := Go.Proofs.Tryd.f56) (by kernel_rfl) aZu (by kernel_rfl) (by kernel_rfl) (Nat.le_refl _) rfl ((aVt _ _ _ _ _ (aUi _ _ _ _ _))) trivial ?_
 unfold aZs
 repeat (refine WR.seq ?_)
 refine WR.reg (WQ.aA [] 1000 _ _ _ _ rfl (WQ.aB ?_))
 repeat (refine WR.seq ?_)
 refine WR.reg (WQ.aA [] 1 _ _ _ _ rfl ?_)
 refine WQ.aE rfl rfl rfl rfl rfl (jO (x := [61]) hl hs (by decide) rfl) (.put .base rfl) rfl ?_
 have he := jF hP (d := d) h1.len (h := ⟨1004, og (sL l d (bP l s [61]) t u (sC k p nm false zEx eH eH)), []⟩) (R := 1000) (by decide) rfl
 generalize (aU P (bP l s [61])).1 = x at he ⊢
 generalize (aU P (bP l s [61])).2 = s2 at he h2 ⊢
 obtain ⟨xk, xa, xe, xn, xv, ⟨xtk, xta, xtp, xtn, xtl⟩, xs⟩ := x
 refine WQ.aA [] 1000 _ _ _ _ rfl (WQ.aB ?_)
 repeat (refine WR.seq ?_)
 refine WR.reg (WQ.aA [] 2 _ _ _ _ rfl ?_)
 refine WQ.aE rfl rfl rfl rfl rfl he (.put .base rfl) rfl ?_
 refine WQ.aA [] 1000 _ _ _ _ rfl (WQ.aB ?_)
 repeat (refine WR.seq ?_)
 refine WR.reg (WQ.aA [] 1 _ _ _ _ rfl ?_)
 refine WQ.aE rfl rfl rfl rfl rfl (jO (x := [59]) hl h2.len (by decide) rfl) (.put .base rfl) rfl ?_
 refine WQ.aA [] 1000 _ _ _ _ rfl (WQ.aB ?_)
 exact ⟨rfl, rfl, ⟨_, rfl, VLe.refl _⟩, fun _ _ => rfl⟩
structure SpecS (l : List Tz) (f : Sf) : Prop where
 block : ∀ d s v s', d ≤ 30 → s.a ≤ l.length → f.block d s = some (v, s') → SCall Go.Proofs.Tryd.prog [] 25 [.ptr 1000 0] none ⟨1001, og (srL l d s), []⟩ (.ret (.lst (dB v) .unk)) none ⟨1001, og (srL l d s'), []⟩
 stmt : ∀ d s v s', d ≤ 30 → s.a ≤ l.length → f.stmt d s = some (v, s') → SCall Go.Proofs.Tryd.prog [] 37 [.ptr 1000 0] none ⟨1001, og (srL l d s), []⟩ (.ret (.agg (jD v))) none ⟨1001, og (srL l d s'), []⟩
end Go.VM
end
section
/- Statements: one statement. -/
set_option maxRecDepth 100000
set_option linter.unusedVariables false
set_option linter.unusedSimpArgs false
namespace Go.VM
open Go.RowKit
def bAe : TM := [(0, .v (.ptr 1000 0)), (2, .l 2 0), (3, .v (.ptr 1001 0)), (4, .v (.ptr 1002 0)), (5, .v (.ptr 1003 0)), (6, .v (.fn (.func 25) [.ptr 1000 0] []))]
def aZv : LM := [(2, sC 0 0 [] false zEx eH eH)]
theorem gX {o a b c : Obj} (x : Nat) (h : x < 1001) : og [(1000, o)] x = og [(1000, o), (1001, a), (1002, b), (1003, c)] x := by
 simp only [aT]
 split
 ·rfl
 ·rw [if_neg (by omega), if_neg (by omega), if_neg (by omega)]
theorem vC {l : List Tz} {f : Sf} (hf : SpecS l f) {d : Nat} (hd : d ≤ 30) {s : Sr} (hs : s.a ≤ l.length) {v : List Sx} {s' : Sr} (e : f.block d s = some (v, s')) {h : H} {R : Nat} (hR : aF ≤ R) (h1 : h.ob R = some (srO l d s)) :
  SCall Go.Proofs.Tryd.prog [] 25 [.ptr R 0] none h (.ret (.lst (dB v) .unk)) none (h.put R (srO l d s')) :=
 jU (hf.block d s v s' hd hs e) trivial ⟨eJ _, trivial⟩ hR h1
theorem aJr {l : List Tz} {P : Nat → R Ex} (hP : ParseOk l P) (hl : l.length < 4294967296) {f : Sf} (hf : SpecS l f) (iv : InvS l f) (d : Nat) (hd : d ≤ 30) (s : Sr) (hs : s.a ≤ l.length) {v : Sx} {s' : Sr} (he : eU l P f d s = some (v, s')) {r1 r2 r3 r4 r : RC} (h4 : aKb = .seq r1 (.seq r2 (.seq r3 (.seq r4 r))))
  {t u : Tz} (ht : t = aC l s.a) (hu : u = aC l (s.a + 1)) {p : Int} (hp : p = t.a) {tm : TM} (htm : TellT tm aZv bAe) {lc : LM} (hlc : TellL lc aZv) :
  WR Go.Proofs.Tryd.prog [] ⟨Go.Proofs.Tryd.f37.ntmps, none, 37⟩ r (SL.toS ⟨tm, [], none, 1004, sL l d s t u (sC 0 p [] false zEx eH eH), lc⟩) (aEz Go.Proofs.Tryd.prog Go.Proofs.Tryd.f37 (.ret (.agg (jD v))) 1001 (srL l d s')) (aUd Go.Proofs.Tryd.prog Go.Proofs.Tryd.f37 (.ret (.agg (jD v))) 1001 (srL l d s')) := by
 refine WR.weak (SW.bF htm hlc) ?_
 unfold aKb at h4
 cases h4
 have tk := fun lc => pR (l := l) (d := d) (s := aO s) (i := s.a + 1) hl (h := ⟨1004, og (sL l d (aO s) t u (sC 0 p [] false zEx eH eH)), lc⟩) (R := 1000) (by decide) rfl
 have i1 := fun lc => mZ (l := l) (d := d) (s := s) (k := 5) (x := aIp) hl hs (h := ⟨1004, og (sL l d (s) t u (sC 0 p [] false zEx eH eH)), lc⟩) (R := 1000) (by decide) rfl
 unfold isN at i1
 have i2 := fun lc => mZ (l := l) (d := d) (s := s) (k := 5) (x := aJt) hl hs (h := ⟨1004, og (sL l d (s) t u (sC 0 p [] false zEx eH eH)), lc⟩) (R := 1000) (by decide) rfl
 unfold isN at i2
 have i3 := fun lc => mZ (l := l) (d := d) (s := s) (k := 5) (x := sIf) hl hs (h := ⟨1004, og (sL l d (s) t u (sC 0 p [] false zEx eH eH)), lc⟩) (R := 1000) (by decide) rfl
 unfold isN at i3
 have i4 := fun lc => mZ (l := l) (d := d) (s := s) (k := 5) (x := aIt) hl hs (h := ⟨1004, og (sL l d (s) t u (sC 0 p [] false zEx eH eH)), lc⟩) (R := 1000) (by decide) rfl
 unfold isN at i4
 unfold eU at he
 rw [← ht, ← hu, ← hp] at he
 rw [← hu] at tk
 unfold aIp at i1 he
 unfold aJt at i2 he
 unfold sIf at i3 he
 unfold aIt at i4 he
 repeat (refine WR.seq ?_)
 refine WR.block ?_
 repeat (refine WR.seq ?_)
 refine WR.reg (WQ.aA [5] 1 _ _ _ _ rfl ?_)
 refine WQ.aE rfl rfl rfl rfl rfl (i1 _) (.put .base rfl) rfl ?_
 cases h1 : isS l s 5 [108, 101, 116] with
 | true =>
  have h0 := cA h1 (by decide)
  rw [h1] at he
  refine WQ.aA [5] 1000 _ _ _ _ rfl (WQ.aB ?_)
  repeat (refine WR.seq ?_)
  refine WR.aK rfl ?_
  repeat (refine WR.seq ?_)
  refine WR.reg (WQ.aA [5] 5 _ _ _ _ rfl ?_)
  refine WQ.aE rfl rfl rfl rfl rfl (tk _) .base rfl ?_
  refine WQ.aA [5] 1000 _ _ _ _ rfl (WQ.aB ?_)
  repeat (refine WR.seq ?_)
  refine WR.reg (WQ.aA [5] 1000 _ _ _ _ rfl (WQ.aB ?_))
  cases hk : decide (u.k = 1) with
  | true =>
   rw [hk] at he
   have he := Option.some.inj he
   have hn := cQ (l := l) (a := s.a + 1) (by rw [← hu, of_decide_eq_true hk]; decide)
   have vc := uF hP hl d (aO (aO s)) hn 1 p u.t t u
   unfold lI at he vc
   generalize (aU P (bP l (aO (aO s)) [61])) = r at he vc
   obtain ⟨⟨xk, xa, xe, xn, xv, ⟨xtk, xta, xtp, xtn, xtl⟩, xs⟩, s3⟩ := r
   cases he
   repeat (refine WR.seq ?_)
   refine WR.aK rfl ?_
   repeat (refine WR.seq ?_)
   refine WR.reg (WQ.aA [5] 1000 _ _ _ _ rfl (WQ.aB ?_))
   repeat (refine WR.seq ?_)
   refine WR.reg (WQ.aA [5] 5 _ _ _ _ rfl ?_)
   rw [bS (by show s.a + 1 < big; unfold big; omega)]
   refine WQ.aA [5] 1000 _ _ _ _ rfl (WQ.aB ?_)
   unfold zS
   repeat (refine WR.seq ?_)
   refine WR.reg (WQ.aA [5] 1 _ _ _ _ rfl ?_)
   refine WQ.aE rfl rfl rfl rfl rfl (SCall.fD vc _) .base rfl ?_
   refine WQ.aA [5] 1000 _ _ _ _ rfl (WQ.aB ?_)
   unfold fV
   repeat (refine WR.seq ?_)
   refine WR.reg (WQ.aA [5] 1000 _ _ _ _ rfl (WQ.aB ?_))
   refine WR.ret ⟨rfl, rfl, ⟨_, rfl, by repeat (first | exact VLe.refl _ | exact VLe.unk _ _ | refine VLe.tup ?_ | refine VLe.agg ?_ | exact VLL.nil | refine VLL.cons ?_ ?_)⟩, fun b hb => gX b hb⟩
  | false =>
   rw [hk] at he
   have he := Option.some.inj he
   have hn := kU (l := l) (s := aO s) (aQ h0).len (c := 5) (by decide)
   have vc := uF hP hl d (hJ l (aO s) 5) hn.len 1 p [] t u
   unfold lI at he vc
   generalize (aU P (bP l (hJ l (aO s) 5) [61])) = r at he vc
   obtain ⟨⟨xk, xa, xe, xn, xv, ⟨xtk, xta, xtp, xtn, xtl⟩, xs⟩, s3⟩ := r
   cases he
   refine WR.aG rfl ?_
   repeat (refine WR.seq ?_)
   refine WR.reg (WQ.aA [5] 1 _ _ _ _ rfl ?_)
   have fl := fun lc => uA (l := l) (d := d) (s := aO s) (c := 5) hl (h := ⟨1004, og (sL l d (aO s) t u (sC 0 p [] false zEx eH eH)), lc⟩) (R := 1000) (by decide) rfl
   refine WQ.aE rfl rfl rfl rfl rfl (fl _) (.put .base rfl) rfl ?_
   refine WQ.aA [5] 1000 _ _ _ _ rfl (WQ.aB ?_)
   unfold zS
   repeat (refine WR.seq ?_)
   refine WR.reg (WQ.aA [5] 1 _ _ _ _ rfl ?_)
   refine WQ.aE rfl rfl rfl rfl rfl (SCall.fD vc _) .base rfl ?_
   refine WQ.aA [5] 1000 _ _ _ _ rfl (WQ.aB ?_)
   unfold fV
   repeat (refine WR.seq ?_)
   refine WR.reg (WQ.aA [5] 1000 _ _ _ _ rfl (WQ.aB ?_))
   refine WR.ret ⟨rfl, rfl, ⟨_, rfl, by repeat (first | exact VLe.refl _ | exact VLe.unk _ _ | refine VLe.tup ?_ | refine VLe.agg ?_ | exact VLL.nil | refine VLL.cons ?_ ?_)⟩, fun b hb => gX b hb⟩
 | false =>
 rw [h1] at he
 refine WQ.aA [5] 1000 _ _ _ _ rfl (WQ.aB ?_)
 refine WR.aG rfl ?_
 repeat (refine WR.seq ?_)
 refine WR.reg (WQ.aA [5] 1 _ _ _ _ rfl ?_)
 refine WQ.aE rfl rfl rfl rfl rfl (i2 _) (.put .base rfl) rfl ?_
 cases h2 : isS l s 5 [114, 101, 116, 117, 114, 110] with
 | true =>
  have h0 := cA h2 (by decide)
  rw [h2] at he
  have j := fun lc => mZ (l := l) (d := d) (s := aO s) (k := 4) (x := [59]) hl (aQ h0).len (h := ⟨1004, og (sL l d (aO s) t u (sC 3 p [] false zEx eH eH)), lc⟩) (R := 1000) (by decide) rfl
  unfold isN at j
  refine WQ.aA [5] 1000 _ _ _ _ rfl (WQ.aB ?_)
  repeat (refine WR.seq ?_)
  refine WR.aK rfl ?_
  repeat (refine WR.seq ?_)
  refine WR.reg (WQ.aA [5] 1000 _ _ _ _ rfl (WQ.aB ?_))
  repeat (refine WR.seq ?_)
  refine WR.reg (WQ.aA [5] 1 _ _ _ _ rfl ?_)
  refine WQ.aE rfl rfl rfl rfl rfl (j _) (.put .base rfl) rfl ?_
  cases h3 : isS l (aO s) 4 [59] with
  | true =>
   rw [h3] at he
   cases he
   refine WQ.aA [5] 1000 _ _ _ _ rfl (WQ.aB ?_)
   repeat (refine WR.seq ?_)
   refine WR.aG rfl (WR.skip ?_)
   unfold fV
   repeat (refine WR.seq ?_)
   refine WR.reg (WQ.aA [5] 1000 _ _ _ _ rfl (WQ.aB ?_))
   refine WR.ret ⟨rfl, rfl, ⟨_, rfl, by repeat (first | exact VLe.refl _ | exact VLe.unk _ _ | refine VLe.tup ?_ | refine VLe.agg ?_ | exact VLL.nil | refine VLL.cons ?_ ?_)⟩, fun b hb => gX b hb⟩
  | false =>
   rw [h3] at he
   have hx := bB hP (aQ h0).len
   have ex := fun lc => jF hP (d := d) (s := aO s) (aQ h0).len (h := ⟨1004, og (sL l d (aO s) t u (sC 3 p [] false zEx eH eH)), lc⟩) (R := 1000) (by decide) rfl
   generalize (aU P (aO s)) = r at he hx ex
   obtain ⟨⟨xk, xa, xe, xn, xv, ⟨xtk, xta, xtp, xtn, xtl⟩, xs⟩, s3⟩ := r
   cases he
   refine WQ.aA [5] 1000 _ _ _ _ rfl (WQ.aB ?_)
   repeat (refine WR.seq ?_)
   refine WR.aK rfl ?_
   repeat (refine WR.seq ?_)
   refine WR.reg (WQ.aA [5] 1 _ _ _ _ rfl ?_)
   refine WQ.aE rfl rfl rfl rfl rfl (ex _) (.put .base rfl) rfl ?_
   refine WQ.aA [5] 1000 _ _ _ _ rfl (WQ.aB ?_)
   repeat (refine WR.seq ?_)
   refine WR.reg (WQ.aA [5] 1 _ _ _ _ rfl ?_)
   refine WQ.aE rfl rfl rfl rfl rfl (jO (x := [59]) hl hx.len (by decide) rfl) (.put .base rfl) rfl ?_
   refine WQ.aA [5] 1000 _ _ _ _ rfl (WQ.aB ?_)
   unfold fV
   repeat (refine WR.seq ?_)
   refine WR.reg (WQ.aA [5] 1000 _ _ _ _ rfl (WQ.aB ?_))
   refine WR.ret ⟨rfl, rfl, ⟨_, rfl, by repeat (first | exact VLe.refl _ | exact VLe.unk _ _ | refine VLe.tup ?_ | refine VLe.agg ?_ | exact VLL.nil | refine VLL.cons ?_ ?_)⟩, fun b hb => gX b hb⟩
 | false =>
 rw [h2] at he
 refine WQ.aA [5] 1000 _ _ _ _ rfl (WQ.aB ?_)
 refine WR.aG rfl ?_
 repeat (refine WR.seq ?_)
 refine WR.reg (WQ.aA [5] 1 _ _ _ _ rfl ?_)
 refine WQ.aE rfl rfl rfl rfl rfl (i3 _) (.put .base rfl) rfl ?_
 cases h3 : isS l s 5 [105, 102] with
 | true =>
  have h0 := cA h3 (by decide)
  rw [h3] at he
  have hx := bB hP (aQ h0).len
  have ex := fun lc => jF hP (d := d) (s := aO s) (aQ h0).len (h := ⟨1004, og (sL l d (aO s) t u (sC 0 p [] false zEx eH eH)), lc⟩) (R := 1000) (by decide) rfl
  generalize (aU P (aO s)) = r at he hx ex
  obtain ⟨⟨xk, xa, xe, xn, xv, ⟨xtk, xta, xtp, xtn, xtl⟩, xs⟩, s3⟩ := r
  refine WQ.aA [5] 1000 _ _ _ _ rfl (WQ.aB ?_)
  repeat (refine WR.seq ?_)
  refine WR.aK rfl ?_
  repeat (refine WR.seq ?_)
  refine WR.reg (WQ.aA [5] 1 _ _ _ _ rfl ?_)
  refine WQ.aE rfl rfl rfl rfl rfl (ex _) (.put .base rfl) rfl ?_
  refine WQ.aA [5] 1000 _ _ _ _ rfl (WQ.aB ?_)
  repeat (refine WR.seq ?_)
  refine WR.reg (WQ.aA [5] 1 _ _ _ _ rfl ?_)
  cases hb : f.block d s3 with
  | none => simp only [hb] at he; cases he
  | some q =>
   obtain ⟨b, s4⟩ := q
   have hbs := iv.block _ _ _ _ hx.len hb
   simp only [hb] at he
   refine WQ.aE rfl rfl rfl rfl rfl (vC hf hd hx.len hb (by decide) rfl) (.put .base rfl) rfl ?_
   refine WQ.aA [5] 1000 _ _ _ _ rfl (WQ.aB ?_)
   repeat (refine WR.seq ?_)
   refine WR.reg (WQ.aA [5] 1 _ _ _ _ rfl ?_)
   refine WQ.aE rfl rfl rfl rfl rfl (mZ (l := l) (d := d) (s := s4) (k := 5) (x := [101, 108, 115, 101]) hl hbs.len (by decide) rfl) (.put .base rfl) rfl ?_
   unfold isN
   unfold jJ at he
   cases h4 : isS l s4 5 [101, 108, 115, 101] with
   | false =>
    rw [h4] at he
    cases he
    refine WQ.aA [5] 1000 _ _ _ _ rfl (WQ.aB ?_)
    refine WR.aG rfl (WR.skip ?_)
    unfold fV
    repeat (refine WR.seq ?_)
    refine WR.reg (WQ.aA [5] 1000 _ _ _ _ rfl (WQ.aB ?_))
    refine WR.ret ⟨rfl, rfl, ⟨_, rfl, by repeat (first | exact VLe.refl _ | exact VLe.unk _ _ | refine VLe.tup ?_ | refine VLe.agg ?_ | exact VLL.nil | refine VLL.cons ?_ ?_)⟩, fun b hb => gX b hb⟩
   | true =>
    have h5 := aQ (cA h4 (by decide))
    rw [h4] at he
    cases hb2 : f.block d (aO s4) with
    | none => simp only [hb2] at he; cases he
    | some q =>
     obtain ⟨b2, s5⟩ := q
     simp only [hb2] at he
     cases he
     refine WQ.aA [5] 1000 _ _ _ _ rfl (WQ.aB ?_)
     repeat (refine WR.seq ?_)
     refine WR.aK rfl ?_
     repeat (refine WR.seq ?_)
     refine WR.reg (WQ.aA [5] 1 _ _ _ _ rfl ?_)
     refine WQ.aE rfl rfl rfl rfl rfl (vC hf hd h5.len hb2 (by decide) rfl) (.put .base rfl) rfl ?_
     refine WQ.aA [5] 1000 _ _ _ _ rfl (WQ.aB ?_)
     unfold fV
     repeat (refine WR.seq ?_)
     refine WR.reg (WQ.aA [5] 1000 _ _ _ _ rfl (WQ.aB ?_))
     refine WR.ret ⟨rfl, rfl, ⟨_, rfl, by repeat (first | exact VLe.refl _ | exact VLe.unk _ _ | refine VLe.tup ?_ | refine VLe.agg ?_ | exact VLL.nil | refine VLL.cons ?_ ?_)⟩, fun b hb => gX b hb⟩
 | false =>
 rw [h3] at he
 refine WQ.aA [5] 1000 _ _ _ _ rfl (WQ.aB ?_)
 refine WR.aG rfl ?_
 repeat (refine WR.seq ?_)
 refine WR.reg (WQ.aA [5] 1 _ _ _ _ rfl ?_)
 refine WQ.aE rfl rfl rfl rfl rfl (i4 _) (.put .base rfl) rfl ?_
 cases h4 : isS l s 5 [102, 111, 114] with
 | true =>
  have h0 := cA h4 (by decide)
  rw [h4] at he
  have hx := bB hP (aQ h0).len
  have ex := fun lc => jF hP (d := d) (s := aO s) (aQ h0).len (h := ⟨1004, og (sL l d (aO s) t u (sC 0 p [] false zEx eH eH)), lc⟩) (R := 1000) (by decide) rfl
  generalize (aU P (aO s)) = r at he hx ex
  obtain ⟨⟨xk, xa, xe, xn, xv, ⟨xtk, xta, xtp, xtn, xtl⟩, xs⟩, s3⟩ := r
  refine WQ.aA [5] 1000 _ _ _ _ rfl (WQ.aB ?_)
  repeat (refine WR.seq ?_)
  refine WR.aK rfl ?_
  repeat (refine WR.seq ?_)
  refine WR.reg (WQ.aA [5] 1 _ _ _ _ rfl ?_)
  refine WQ.aE rfl rfl rfl rfl rfl (ex _) (.put .base rfl) rfl ?_
  refine WQ.aA [5] 1000 _ _ _ _ rfl (WQ.aB ?_)
  repeat (refine WR.seq ?_)
  refine WR.reg (WQ.aA [5] 1 _ _ _ _ rfl ?_)
  cases hb : f.block d s3 with
  | none => simp only [hb] at he; cases he
  | some q =>
   obtain ⟨b, s4⟩ := q
   simp only [hb] at he
   cases he
   refine WQ.aE rfl rfl rfl rfl rfl (vC hf hd hx.len hb (by decide) rfl) (.put .base rfl) rfl ?_
   refine WQ.aA [5] 1000 _ _ _ _ rfl (WQ.aB ?_)
   unfold fV
   repeat (refine WR.seq ?_)
   refine WR.reg (WQ.aA [5] 1000 _ _ _ _ rfl (WQ.aB ?_))
   refine WR.ret ⟨rfl, rfl, ⟨_, rfl, by repeat (first | exact VLe.refl _ | exact VLe.unk _ _ | refine VLe.tup ?_ | refine VLe.agg ?_ | exact VLL.nil | refine VLL.cons ?_ ?_)⟩, fun b hb => gX b hb⟩
 | false =>
 rw [h4] at he
 unfold rY at he
 rw [← ht, ← hu] at he
 refine WQ.aA [5] 1000 _ _ _ _ rfl (WQ.aB ?_)
 refine WR.aG rfl ?_
 repeat (refine WR.seq ?_)
 refine WR.reg (WQ.aA [5] 3 _ _ _ _ rfl ?_)
 cases g1 : decide (t.k = 1) with
 | false =>
  rw [g1] at he
  have hx := bB hP hs
  have ex := fun lc => jF hP (d := d) (s := s) hs (h := ⟨1004, og (sL l d s t u (sC 0 p [] false zEx eH eH)), lc⟩) (R := 1000) (by decide) rfl
  generalize (aU P s) = r at he hx ex
  obtain ⟨⟨xk, xa, xe, xn, xv, ⟨xtk, xta, xtp, xtn, xtl⟩, xs⟩, s3⟩ := r
  cases he
  refine WQ.aA [5] 1000 _ _ _ _ rfl (WQ.aB ?_)
  refine WR.aG rfl ?_
  repeat (refine WR.seq ?_)
  refine WR.reg (WQ.aA [5] 1 _ _ _ _ rfl ?_)
  refine WQ.aE rfl rfl rfl rfl rfl (ex _) (.put .base rfl) rfl ?_
  refine WQ.aA [5] 1000 _ _ _ _ rfl (WQ.aB ?_)
  repeat (refine WR.seq ?_)
  refine WR.reg (WQ.aA [5] 1 _ _ _ _ rfl ?_)
  refine WQ.aE rfl rfl rfl rfl rfl (jO (x := [59]) hl hx.len (by decide) rfl) (.put .base rfl) rfl ?_
  refine WQ.aA [5] 1000 _ _ _ _ rfl (WQ.aB ?_)
  unfold fV
  repeat (refine WR.seq ?_)
  refine WR.reg (WQ.aA [5] 1000 _ _ _ _ rfl (WQ.aB ?_))
  refine WR.ret ⟨rfl, rfl, ⟨_, rfl, by repeat (first | exact VLe.refl _ | exact VLe.unk _ _ | refine VLe.tup ?_ | refine VLe.agg ?_ | exact VLL.nil | refine VLL.cons ?_ ?_)⟩, fun b hb => gX b hb⟩
 | true =>
  rw [g1] at he
  refine WQ.aA [5] 5 _ _ _ _ rfl ?_
  cases g2 : decide (u.k = 4) with
  | false =>
   rw [g2] at he
   have hx := bB hP hs
   have ex := fun lc => jF hP (d := d) (s := s) hs (h := ⟨1004, og (sL l d s t u (sC 0 p [] false zEx eH eH)), lc⟩) (R := 1000) (by decide) rfl
   generalize (aU P s) = r at he hx ex
   obtain ⟨⟨xk, xa, xe, xn, xv, ⟨xtk, xta, xtp, xtn, xtl⟩, xs⟩, s3⟩ := r
   cases he
   refine WQ.aA [5] 1000 _ _ _ _ rfl (WQ.aB ?_)
   refine WR.aG rfl ?_
   repeat (refine WR.seq ?_)
   refine WR.reg (WQ.aA [5] 1 _ _ _ _ rfl ?_)
   refine WQ.aE rfl rfl rfl rfl rfl (ex _) (.put .base rfl) rfl ?_
   refine WQ.aA [5] 1000 _ _ _ _ rfl (WQ.aB ?_)
   repeat (refine WR.seq ?_)
   refine WR.reg (WQ.aA [5] 1 _ _ _ _ rfl ?_)
   refine WQ.aE rfl rfl rfl rfl rfl (jO (x := [59]) hl hx.len (by decide) rfl) (.put .base rfl) rfl ?_
   refine WQ.aA [5] 1000 _ _ _ _ rfl (WQ.aB ?_)
   unfold fV
   repeat (refine WR.seq ?_)
   refine WR.reg (WQ.aA [5] 1000 _ _ _ _ rfl (WQ.aB ?_))
   refine WR.ret ⟨rfl, rfl, ⟨_, rfl, by repeat (first | exact VLe.refl _ | exact VLe.unk _ _ | refine VLe.tup ?_ | refine VLe.agg ?_ | exact VLL.nil | refine VLL.cons ?_ ?_)⟩, fun b hb => gX b hb⟩
  | true =>
   rw [g2] at he
   refine WQ.aA [5] 5 _ _ _ _ rfl ?_
   cases g3 : decide (u.t = [61]) with
   | false =>
    rw [g3] at he
    have hx := bB hP hs
    have ex := fun lc => jF hP (d := d) (s := s) hs (h := ⟨1004, og (sL l d s t u (sC 0 p [] false zEx eH eH)), lc⟩) (R := 1000) (by decide) rfl
    generalize (aU P s) = r at he hx ex
    obtain ⟨⟨xk, xa, xe, xn, xv, ⟨xtk, xta, xtp, xtn, xtl⟩, xs⟩, s3⟩ := r
    cases he
    refine WQ.aA [5] 1000 _ _ _ _ rfl (WQ.aB ?_)
    refine WR.aG rfl ?_
    repeat (refine WR.seq ?_)
    refine WR.reg (WQ.aA [5] 1 _ _ _ _ rfl ?_)
    refine WQ.aE rfl rfl rfl rfl rfl (ex _) (.put .base rfl) rfl ?_
    refine WQ.aA [5] 1000 _ _ _ _ rfl (WQ.aB ?_)
    repeat (refine WR.seq ?_)
    refine WR.reg (WQ.aA [5] 1 _ _ _ _ rfl ?_)
    refine WQ.aE rfl rfl rfl rfl rfl (jO (x := [59]) hl hx.len (by decide) rfl) (.put .base rfl) rfl ?_
    refine WQ.aA [5] 1000 _ _ _ _ rfl (WQ.aB ?_)
    unfold fV
    repeat (refine WR.seq ?_)
    refine WR.reg (WQ.aA [5] 1000 _ _ _ _ rfl (WQ.aB ?_))
    refine WR.ret ⟨rfl, rfl, ⟨_, rfl, by repeat (first | exact VLe.refl _ | exact VLe.unk _ _ | refine VLe.tup ?_ | refine VLe.agg ?_ | exact VLL.nil | refine VLL.cons ?_ ?_)⟩, fun b hb => gX b hb⟩
   | true =>
    rw [g3] at he
    have h0 := cQ (l := l) (a := s.a) (by rw [← ht, of_decide_eq_true g1]; decide)
    have he := Option.some.inj he
    have vc := uF hP hl d (aO s) h0 2 p t.t t u
    unfold lI at he vc
    generalize (aU P (bP l (aO s) [61])) = r at he vc
    obtain ⟨⟨xk, xa, xe, xn, xv, ⟨xtk, xta, xtp, xtn, xtl⟩, xs⟩, s3⟩ := r
    cases he
    refine WQ.aA [5] 1000 _ _ _ _ rfl (WQ.aB ?_)
    repeat (refine WR.seq ?_)
    refine WR.aK rfl ?_
    repeat (refine WR.seq ?_)
    refine WR.reg (WQ.aA [5] 5 _ _ _ _ rfl ?_)
    rw [bS (by show s.a < big; unfold big; omega)]
    refine WQ.aA [5] 1000 _ _ _ _ rfl (WQ.aB ?_)
    repeat (refine WR.seq ?_)
    refine WR.reg (WQ.aA [5] 1000 _ _ _ _ rfl (WQ.aB ?_))
    repeat (refine WR.seq ?_)
    refine WR.reg (WQ.aA [5] 1 _ _ _ _ rfl ?_)
    refine WQ.aE rfl rfl rfl rfl rfl (SCall.fD vc _) .base rfl ?_
    refine WQ.aA [5] 1000 _ _ _ _ rfl (WQ.aB ?_)
    unfold fV
    repeat (refine WR.seq ?_)
    refine WR.reg (WQ.aA [5] 1000 _ _ _ _ rfl (WQ.aB ?_))
    refine WR.ret ⟨rfl, rfl, ⟨_, rfl, by repeat (first | exact VLe.refl _ | exact VLe.unk _ _ | refine VLe.tup ?_ | refine VLe.agg ?_ | exact VLL.nil | refine VLL.cons ?_ ?_)⟩, fun b hb => gX b hb⟩
theorem aLh {l : List Tz} {P : Nat → R Ex} (hP : ParseOk l P) (hl : l.length < 4294967296) {f : Sf} (hf : SpecS l f) (iv : InvS l f) (d : Nat) (hd : d ≤ 30) (s : Sr) (hs : s.a ≤ l.length) {v : Sx} {s' : Sr} (he : eU l P f d s = some (v, s')) :
  SCall Go.Proofs.Tryd.prog [] 37 [.ptr 1000 0] none ⟨1001, og (srL l d s), []⟩ (.ret (.agg (jD v))) none ⟨1001, og (srL l d s'), []⟩ := by
 have hz : ∀ (i j : Nat) (cs cs' : List V), SCall Go.Proofs.Tryd.prog [] 34 [.ptr 1000 0, .int .i64 i] none ⟨1003, og [(1000, srO l d s), (1001, .cells false cs), (1002, .cells false cs')], []⟩ (.ret (.agg (dK (aC l i)))) none ⟨1003, og [(1000, srO l d s), (1001, .cells false cs), (1002, .cells false cs')], []⟩ := fun i j cs cs' => pR hl (by decide) rfl
 obtain ⟨r1, r2, r3, r4, r, h4⟩ : ∃ r1 r2 r3 r4 r, aKb = .seq r1 (.seq r2 (.seq r3 (.seq r4 r))) := by unfold aKb; exact ⟨_, _, _, _, _, rfl⟩
 have body := fun tm lc htm hlc => aJr hP hl hf iv d hd s hs he h4 (t := aC l s.a) (u := aC l (s.a + 1)) rfl rfl (p := (aC l s.a).a) rfl (tm := tm) htm (lc := lc) hlc
 refine SCall.aV (fn := Go.Proofs.Tryd.f37) (by kernel_rfl) aWm (by kernel_rfl) (by kernel_rfl) (Nat.le_refl _) rfl (iL _ _ _) (by exact vI _) ?_
 unfold aKb at h4 ⊢
 cases h4
 repeat (refine WR.seq ?_)
 refine WR.reg (WQ.aA [] 1000 _ _ _ _ rfl (WQ.aB ?_))
 repeat (refine WR.seq ?_)
 refine WR.aW bE (DW.aA [] 11 _ _ _ _ _ _ rfl ?_)
 rw [bS (by unfold big; omega)]
 refine DW.aA [] 1000 _ _ _ _ _ _ rfl ?_
 refine DW.aE (by repeat (first | exact .nil | refine PendR.aI rfl ?_ | refine PendR.aH rfl ?_ | refine PendR.aD rfl ?_)) rfl rfl rfl rfl rfl (SCall.fD (hz s.a 0 _ _) _) .base rfl (DW.aA [] 1000 _ _ _ _ _ _ rfl ?_)
 refine DW.aE (by repeat (first | exact .nil | refine PendR.aI rfl ?_ | refine PendR.aH rfl ?_ | refine PendR.aD rfl ?_)) rfl rfl rfl rfl rfl (SCall.fD (hz (s.a + 1) 0 _ _) _) .base rfl (DW.aA [] 1000 _ _ _ _ _ _ rfl ?_)
 refine DW.stS (by repeat (first | exact .nil | refine PendR.aI rfl ?_ | refine PendR.aH rfl ?_ | refine PendR.aD rfl ?_)) rfl rfl rfl rfl (DW.aA [] 1000 _ _ _ _ _ _ rfl ?_)
 refine DW.stS (by repeat (first | exact .nil | refine PendR.aI rfl ?_ | refine PendR.aH rfl ?_ | refine PendR.aD rfl ?_)) rfl rfl rfl rfl (DW.aA [] 1000 _ _ _ _ _ _ rfl (DW.dN (by repeat (first | exact .nil | refine PendR.aI rfl ?_ | refine PendR.aH rfl ?_ | refine PendR.aD rfl ?_)) ?_))
 repeat (refine WR.seq ?_)
 refine WR.reg (WQ.aA [5] 1000 _ _ _ _ rfl (WQ.aB ?_))
 refine WR.seq (WR.reg (WQ.aA [5] 1000 _ _ _ _ rfl (WQ.aB ?_)))
 refine body _ _ ?_ ?_
 ·repeat (first | exact .nil | refine .cons rfl (.v (VLe.refl _)) ?_ | refine .cons rfl (.l _ _ rfl) ?_)
 ·repeat (first | exact .nil | refine .cons rfl (.inl rfl) ?_)
end Go.VM
end
section
/- Statements: a block. -/
set_option maxRecDepth 100000
set_option linter.unusedVariables false
set_option linter.unusedSimpArgs false
namespace Go.VM
open Go.RowKit
def lvS : List Sx → V
 | [] => .lst [] (.ex 0)
 | x :: l => .lst ((x :: l).map jD) (.tk 1001)
def aUm : List Sx → OL
 | [] => []
 | x :: l => [(1001, .tok (x :: l).length)]
def nxS : List Sx → Nat
 | [] => 1001
 | _ :: _ => 1002
def blM (l : List Tz) (d : Nat) (s : Sr) (acc : List Sx) : OL := (1000, srO l d s) :: aUm acc
def aRt (acc : List Sx) : TM := [(0, .v (.ptr 1000 0)), (2, .v (lvS acc))]
theorem aMk {o : Obj} (acc : List Sx) (b : Nat) (h : b < 1001) : og [(1000, o)] b = og ((1000, o) :: aUm acc) b := by
 cases acc with
 | nil => rfl
 | cons p l =>
  simp only [aUm, aT]
  split
  ·rfl
  ·rw [if_neg (by omega)]
theorem aUo (acc : List Sx) : VLe (lvS acc) (.lst (dB acc) .unk) := by
 rw [eY]
 cases acc with
 | nil => exact VLe.unk _ _
 | cons x l => exact VLe.unk _ _
theorem aRa {l : List Tz} {f : Sf} (hf : SpecS l f) {d : Nat} (hd : d ≤ 30) {s : Sr} (hs : s.a ≤ l.length) {v : Sx} {s' : Sr} (e : f.stmt d s = some (v, s')) {h : H} {R : Nat} (hR : aF ≤ R) (h1 : h.ob R = some (srO l d s)) :
  SCall Go.Proofs.Tryd.prog [] 37 [.ptr R 0] none h (.ret (.agg (jD v))) none (h.put R (srO l d s')) :=
 jU (hf.stmt d s v s' hd hs e) trivial (vI _) hR h1
theorem aIv {QN : S → Prop} {QX : X → S → Prop} {l : List Tz} {P : Nat → R Ex} (hP : ParseOk l P) (hl : l.length < 20000) (d : Nat) : ∀ (n : Nat) (hsp : ∀ m, m < n → SpecS l (bC l P m)) (acc : List Sx) (s : Sr) (v : List Sx) (s' : Sr),
  (bC l P n).loop d acc s = some (v, s') → s.a ≤ l.length → (s.c = 0 → acc.length ≤ s.a ∧ d ≤ 30) → (∀ tm, TellT tm [] (aRt v) → QX (.exit 0) (SL.toS ⟨tm, [], none, nxS v, blM l d s' v, []⟩)) →
  WLr Go.Proofs.Tryd.prog [] ⟨Go.Proofs.Tryd.f25.ntmps, none, 25⟩ aAw (SL.toS ⟨aRt acc, [], none, nxS acc, blM l d s acc, []⟩) QN QX := by
 intro n
 induction n with
 | zero => intro _ acc s v s' e; cases e
 | succ n ih =>
  intro hsp acc s v s' e hs hd h0
  have hl' : l.length < 4294967296 := by omega
  have e : bZ l (bC l P n) d acc s = some (v, s') := e
  unfold bZ at e
  have hf := fun nx rw => kS (l := l) (d := d) (s := s) (h := ⟨nx, og ((1000, srO l d s) :: rw), []⟩) (R := 1000) (by decide) rfl
  unfold aAw
  refine WLr.of ?_
  repeat (refine WR.seq ?_)
  refine WR.reg (WQ.aA [] 1 _ _ _ _ rfl ?_)
  refine WQ.aE rfl rfl rfl rfl rfl (hf _ _) .base rfl ?_
  cases h1 : cC s with
  | false =>
   rw [h1] at e
   cases e
   refine WQ.aA [] 1000 _ _ _ _ rfl (WQ.aB ?_)
   repeat (refine WR.seq ?_)
   refine WR.aG rfl (WR.exit (h0 _ ?_))
   repeat (first | exact .nil | refine .cons rfl (.v (VLe.refl _)) ?_)
  | true =>
   rw [h1] at e
   have hc0 := eS.1 h1
   obtain ⟨hacc, hd30⟩ := hd hc0
   have hi := fun nx rw => mZ (l := l) (d := d) (s := s) (k := 4) (x := [125]) hl' hs (h := ⟨nx, og ((1000, srO l d s) :: rw), []⟩) (R := 1000) (by decide) rfl
   unfold isN at hi
   refine WQ.aA [] 1000 _ _ _ _ rfl (WQ.aB ?_)
   repeat (refine WR.seq ?_)
   refine WR.aK rfl (WR.skip ?_)
   repeat (refine WR.seq ?_)
   refine WR.block ?_
   repeat (refine WR.seq ?_)
   refine WR.reg (WQ.aA [] 1 _ _ _ _ rfl ?_)
   refine WQ.aE rfl rfl rfl rfl rfl (hi _ _) (.put .base rfl) rfl ?_
   cases h2 : isS l s 4 [125] with
   | true =>
    rw [h2] at e
    cases e
    refine WQ.aA [] 1000 _ _ _ _ rfl (WQ.aB ?_)
    repeat (refine WR.seq ?_)
    refine WR.aK rfl (WR.exit (h0 _ ?_))
    repeat (first | exact .nil | refine .cons rfl (.v (VLe.refl _)) ?_)
   | false =>
    rw [h2] at e
    cases h3 : (bC l P n).stmt d s with
    | none => simp only [h3] at e; cases e
    | some q =>
     obtain ⟨x, s1⟩ := q
     simp only [h3] at e
     have st := (cB hP n).stmt _ _ _ _ hs h3
     have sx := fun nx rw => aRa (hsp n (by omega)) hd30 hs h3 (h := ⟨nx, og ((1000, srO l d s) :: rw), []⟩) (R := 1000) (by decide) rfl
     have ih := ih (fun m hm => hsp m (by omega)) (acc ++ [x]) s1 v s' e st.len (fun hc => ⟨by have := st.lt hc; simp; omega, hd30⟩) h0
     obtain ⟨xk, xa, xn, xh, ⟨yk, ya, ye, yn, yv, ⟨ytk, yta, ytp, ytn, ytl⟩, ys⟩, xb, xe⟩ := x
     refine WQ.aA [] 1000 _ _ _ _ rfl (WQ.aB ?_)
     repeat (refine WR.seq ?_)
     refine WR.aG rfl (WR.skip ?_)
     cases acc with
     | nil =>
      repeat (refine WR.seq ?_)
      refine WR.reg (WQ.aA [] 2 _ _ _ _ rfl ?_)
      refine WQ.aE rfl rfl rfl rfl rfl (sx _ _) (.put .base rfl) rfl ?_
      refine WQ.aA [] 1 _ _ _ _ rfl ?_
      refine WQ.iH rfl (yM (n2 := 1) (es2 := [jD (.mk xk xa xn xh (.mk yk ya ye yn yv (.mk ytk yta ytp ytn ytl) ys) xb xe)]) rfl rfl (Nat.zero_lt_one) (by simp) (by simp) (by show 232 * 1 ≤ lim; decide) rfl rfl rfl rfl) rfl ?_
      refine WQ.aA [] 1000 _ _ _ _ rfl (WQ.aB ?_)
      refine WIr.again (WLr.weak ?_ ih)
      refine SW.bF ?_ ?_
      ·repeat (first | exact .nil | refine .cons rfl (.v (VLe.refl _)) ?_ | refine .cons rfl (.l _ _ rfl) ?_ | refine .cons rfl (.v (VLe.unk _ _)) ?_)
      ·repeat (first | exact .nil | refine .cons rfl (.inl rfl) ?_)
     | cons q r =>
      repeat (refine WR.seq ?_)
      refine WR.reg (WQ.aA [] 2 _ _ _ _ rfl ?_)
      refine WQ.aE rfl rfl rfl rfl rfl (sx _ _) (.put .base rfl) rfl ?_
      refine WQ.aA [] 1 _ _ _ _ rfl ?_
      refine WQ.iH rfl (aAr (n := (q :: r).length) (n2 := (q :: r ++ [Sx.mk xk xa xn xh (.mk yk ya ye yn yv (.mk ytk yta ytp ytn ytl) ys) xb xe]).length) (es2 := (q :: r ++ [Sx.mk xk xa xn xh (.mk yk ya ye yn yv (.mk ytk yta ytp ytn ytl) ys) xb xe]).map jD) rfl rfl rfl (List.length_map ..).symm ?_ ?_ ?_ rfl ?_ ?_ rfl) rfl ?_
      ·intro e he
       obtain ⟨y, _, rfl⟩ := List.mem_map.1 (show e ∈ (q :: r).map jD from he)
       exact aKo y
      ·simp
      ·simp only [List.length_map, List.length_cons, List.length_nil] at hacc ⊢; unfold lim; omega
      ·rw [List.map_append]; rfl
      ·simp
      refine WQ.aA [] 1000 _ _ _ _ rfl (WQ.aB ?_)
      refine WIr.again (WLr.weak ?_ ih)
      refine SW.bF ?_ ?_
      ·repeat (first | exact .nil | refine .cons rfl (.v (VLe.refl _)) ?_ | refine .cons rfl (.l _ _ rfl) ?_ | refine .cons rfl (.v (VLe.unk _ _)) ?_)
      ·repeat (first | exact .nil | refine .cons rfl (.inl rfl) ?_)
end Go.VM
end
section
/- Statements: a block; all of it. -/
set_option maxRecDepth 100000
set_option linter.unusedVariables false
set_option linter.unusedSimpArgs false
namespace Go.VM
open Go.RowKit
theorem aLl {l : List Tz} {s : Sr} {x : List Nat} (h : ¬ (cC s = true ∧ isF l s.a 4 x = true)) : (bP l s x).c ≠ 0 := by
 unfold bP isS
 cases hf : cC s with
 | false =>
  have h1 : ¬ s.c = 0 := of_decide_eq_false hf
  unfold hJ
  rw [hf]
  exact h1
 | true =>
  cases hi : isF l s.a 4 x with
  | true => exact absurd ⟨hf, hi⟩ h
  | false =>
   unfold hJ
   rw [hf]
   show (5 : Int) ≠ 0
   decide
theorem aEl {QN : S → Prop} {QX : X → S → Prop} {l : List Tz} {P : Nat → R Ex} (hP : ParseOk l P) (hl : l.length < 20000) (n : Nat) (hsp : ∀ m, m < n → SpecS l (bC l P m)) (d : Nat) (hd : d ≤ 30) (s : Sr) (hs : s.a ≤ l.length) {v : List Sx} {s' : Sr} (he : bW l (bC l P n) d s = some (v, s')) (hdp : lB l d s = false)
  {r1 r2 r : RC} (h4 : aKn = .seq r1 (.scope (.seq r2 r))) {tm : TM} (htm : TellT tm [] (aRt [])) (hq : ∀ st, aEz Go.Proofs.Tryd.prog Go.Proofs.Tryd.f25 (.ret (.lst (dB v) .unk)) 1001 (srL l d s') st → QX .ret st) :
  WR Go.Proofs.Tryd.prog [] ⟨Go.Proofs.Tryd.f25.ntmps, none, 25⟩ r (SL.toS ⟨tm, [], none, 1001, srL l d s, []⟩) QN QX := by
 have hl' : l.length < 4294967296 := by omega
 refine WR.weak (SW.bF htm .nil) ?_
 unfold aKn at h4
 cases h4
 unfold bW at he
 rw [hdp] at he
 have hm := bL hs (x := [123])
 have hd2 : (bP l s [123]).c = 0 → d + 1 ≤ 30 := by
  intro hc
  rcases Nat.lt_or_ge d 30 with h | h
  ·omega
  ·exfalso
   have h30 : d = 30 := by omega
   refine aLl (l := l) (s := s) (x := [123]) ?_ hc
   intro ⟨q1, q2⟩
   unfold isF at q2
   unfold lB at hdp
   rw [q1, q2, decide_eq_true h30] at hdp
   cases hdp
 repeat (refine WR.seq ?_)
 refine WR.reg (WQ.aA [] 1 _ _ _ _ rfl ?_)
 refine WQ.aE rfl rfl rfl rfl rfl (jO (l := l) (d := d) (s := s) (x := [123]) hl' hs (by decide) rfl) (.put .base rfl) rfl ?_
 refine WQ.aA [] 1000 _ _ _ _ rfl (WQ.aB ?_)
 repeat (refine WR.seq ?_)
 refine WR.reg (WQ.aA [] 5 _ _ _ _ rfl ?_)
 rw [bS (by unfold big; omega)]
 refine WQ.aA [] 1000 _ _ _ _ rfl (WQ.aB ?_)
 refine WR.seq (WR.skip ?_)
 repeat (refine WR.seq ?_)
 refine WR.block (WR.loop (WLr.weak (s := SL.toS ⟨aRt [], [], none, nxS [], blM l (d + 1) (bP l s [123]) [], []⟩) ?_ (aIv hP hl (d + 1) n hsp [] (bP l s [123]) v s' he hm.len (fun hc => ⟨Nat.zero_le _, hd2 hc⟩) (fun tm ht => ?_))))
 ·refine SW.bF ?_ ?_
  ·repeat (first | exact .nil | refine .cons rfl (.v (VLe.refl _)) ?_ | refine .cons rfl (.l _ _ rfl) ?_ | refine .cons rfl (.v (VLe.unk _ _)) ?_)
  ·repeat (first | exact .nil | refine .cons rfl (.inl rfl) ?_)
 ·refine WR.weak (SW.bF ht .nil) ?_
  unfold aIi
  repeat (refine WR.seq ?_)
  refine WR.reg (WQ.aA [] 5 _ _ _ _ rfl ?_)
  rw [nE (by omega) (by unfold big; omega), Nat.add_sub_cancel]
  refine WQ.aA [] 1000 _ _ _ _ rfl (WQ.aB ?_)
  repeat (refine WR.seq ?_)
  refine WR.reg (WQ.aA [] 1000 _ _ _ _ rfl (WQ.aB ?_))
  exact WR.ret (hq _ ⟨rfl, rfl, ⟨_, rfl, aUo v⟩, fun b hb => aMk v b hb⟩)
theorem aEy {l : List Tz} {P : Nat → R Ex} (hP : ParseOk l P) (hl : l.length < 20000) (n : Nat) (hsp : ∀ m, m < n → SpecS l (bC l P m)) (d : Nat) (hd : d ≤ 30) (s : Sr) (hs : s.a ≤ l.length) {v : List Sx} {s' : Sr} (he : bW l (bC l P n) d s = some (v, s')) :
  SCall Go.Proofs.Tryd.prog [] 25 [.ptr 1000 0] none ⟨1001, og (srL l d s), []⟩ (.ret (.lst (dB v) .unk)) none ⟨1001, og (srL l d s'), []⟩ := by
 have hl' : l.length < 4294967296 := by omega
 have hf := kS (l := l) (d := d) (s := s) (h := ⟨1001, og (srL l d s), []⟩) (R := 1000) (by decide) rfl
 have ht := pR (l := l) (d := d) (s := s) (i := s.a) hl' (h := ⟨1001, og (srL l d s), []⟩) (R := 1000) (by decide) rfl
 obtain ⟨r1, r2, r, h4⟩ : ∃ r1 r2 r, aKn = .seq r1 (.scope (.seq r2 r)) := by unfold aKn; exact ⟨_, _, _, rfl⟩
 have rest := fun QN QX hdp tm htm hq => aEl (QN := QN) (QX := QX) hP hl n hsp d hd s hs he hdp h4 (tm := tm) htm hq
 refine SCall.aV (fn := Go.Proofs.Tryd.f25) (by kernel_rfl) aZx (by kernel_rfl) (by kernel_rfl) (Nat.le_refl _) rfl (iL _ _ _) (by exact ⟨eJ _, trivial⟩) ?_
 unfold lB at rest
 unfold bW lB at he
 unfold aKn at h4 ⊢
 cases h4
 repeat (refine WR.seq ?_)
 refine WR.reg (WQ.aA [] 1000 _ _ _ _ rfl (WQ.aB ?_))
 refine WR.scope ?_
 repeat (refine WR.seq ?_)
 refine WR.reg (WQ.aA [] 4 _ _ _ _ rfl ?_)
 cases h30 : decide (d = 30) with
 | false =>
  have : decide ((d : Int) = 30) = false := decide_eq_false (by have := of_decide_eq_false h30; omega)
  rw [h30] at rest
  refine WQ.aA [] 1 _ _ _ _ rfl ?_
  rw [this]
  refine WQ.aA [] 1000 _ _ _ _ rfl (WQ.aB ?_)
  refine WR.aG rfl (WR.skip ?_)
  refine rest _ _ rfl _ ?_ (fun _ h => h)
  repeat (first | exact .nil | refine .cons rfl (.v (VLe.refl _)) ?_)
 | true =>
  have : decide ((d : Int) = 30) = true := decide_eq_true (by have := of_decide_eq_true h30; omega)
  rw [h30] at rest he
  refine WQ.aA [] 1 _ _ _ _ rfl ?_
  rw [this]
  refine WQ.aA [] 2 _ _ _ _ rfl ?_
  refine WQ.aE rfl rfl rfl rfl rfl hf .base rfl ?_
  cases h1 : cC s with
  | false =>
   rw [h1] at rest
   refine WQ.aA [] 1000 _ _ _ _ rfl (WQ.aB ?_)
   refine WR.aG rfl (WR.skip ?_)
   refine rest _ _ rfl _ ?_ (fun _ h => h)
   repeat (first | exact .nil | refine .cons rfl (.v (VLe.refl _)) ?_)
  | true =>
   rw [h1] at rest he
   refine WQ.aA [] 8 _ _ _ _ rfl ?_
   refine WQ.aE rfl rfl rfl rfl rfl ht .base rfl ?_
   refine WQ.aA [] 2 _ _ _ _ rfl ?_
   cases hk : decide ((aC l s.a).k = 4) with
   | false =>
    rw [hk] at rest
    refine WQ.aA [] 1000 _ _ _ _ rfl (WQ.aB ?_)
    refine WR.aG rfl (WR.skip ?_)
    refine rest _ _ rfl _ ?_ (fun _ h => h)
    repeat (first | exact .nil | refine .cons rfl (.v (VLe.refl _)) ?_)
   | true =>
    rw [hk] at rest he
    refine WQ.aA [] 7 _ _ _ _ rfl ?_
    refine WQ.aE rfl rfl rfl rfl rfl ht .base rfl ?_
    refine WQ.aA [] 2 _ _ _ _ rfl ?_
    cases hx : decide ((aC l s.a).t = [123]) with
    | false =>
     rw [hx] at rest
     refine WQ.aA [] 1000 _ _ _ _ rfl (WQ.aB ?_)
     refine WR.aG rfl (WR.skip ?_)
     refine rest _ _ rfl _ ?_ (fun _ h => h)
     repeat (first | exact .nil | refine .cons rfl (.v (VLe.refl _)) ?_)
    | true =>
     rw [hx] at he
     cases he
     have fl := uA (l := l) (d := d) (s := s) (c := 6) hl' (h := ⟨1001, og (srL l d s), []⟩) (R := 1000) (by decide) rfl
     refine WQ.aA [] 1000 _ _ _ _ rfl (WQ.aB ?_)
     refine WR.aK rfl ?_
     repeat (refine WR.seq ?_)
     refine WR.reg (WQ.aA [] 1 _ _ _ _ rfl ?_)
     refine WQ.aE rfl rfl rfl rfl rfl fl (.put .base rfl) rfl ?_
     refine WQ.aA [] 1000 _ _ _ _ rfl (WQ.aB ?_)
     repeat (refine WR.seq ?_)
     refine WR.reg (WQ.aA [] 1000 _ _ _ _ rfl (WQ.aB ?_))
     refine WR.ret ⟨rfl, rfl, ⟨_, rfl, by repeat (first | exact VLe.refl _ | exact VLe.unk _ _ | refine VLe.tup ?_ | refine VLe.agg ?_ | exact VLL.nil | refine VLL.cons ?_ ?_)⟩, fun b _ => rfl⟩
theorem aKx {l : List Tz} {P : Nat → R Ex} (hP : ParseOk l P) (hl : l.length < 20000) : ∀ n, ∀ m, m < n → SpecS l (bC l P m) := by
 intro n
 induction n with
 | zero => intro m hm; omega
 | succ n ih =>
  intro m hm
  rcases Nat.lt_or_ge m n with h | h
  ·exact ih m h
  have : m = n := by omega
  subst this
  cases m with
  | zero => exact ⟨fun _ _ _ _ _ _ e => (by cases e), fun _ _ _ _ _ _ e => (by cases e)⟩
  | succ m =>
   exact ⟨fun d s v s' hd hs e => aEy hP hl m (fun k hk => ih k (by omega)) d hd s hs e, fun d s v s' hd hs e => aLh hP (by omega) (ih m (by omega)) (cB hP m) d hd s hs e⟩
theorem aIa {o : Obj} (b : Nat) (h : b < 1000) : og [] b = og [(1000, o)] b := by
 simp only [aT]
 rw [if_neg (by omega)]
def stV (r : List Sx × Sr) : V := match cC r.2 with
 | true => .tup [.lst (dB r.1) .unk, .int .i64 r.2.a, .agg (dgX 0 0)]
 | false => .tup [.lst [] (.ex 0), .int .i64 0, .agg (dgX r.2.p r.2.c)]
theorem aNa {D : Nat → Prop} (r : List Sx × Sr) : (stV r).In D := by
 unfold stV
 cases cC r.2 with
 | true => exact ⟨⟨eJ _, trivial⟩, trivial, ⟨trivial, trivial, trivial⟩, trivial⟩
 | false => exact ⟨⟨trivial, trivial⟩, trivial, ⟨trivial, trivial, trivial⟩, trivial⟩
theorem aDd {l : List Tz} {P : Nat → R Ex} (hP : ParseOk l P) (hl : l.length < 20000) (n a : Nat) (ha : a ≤ l.length) {r : List Sx × Sr} (he : (bC l P n).block 0 ⟨a, 0, 0⟩ = some r) :
  SCall Go.Proofs.Tryd.prog [] 17 [lsV l, .int .i64 a] none ⟨1000, og [], []⟩ (.ret (stV r)) none ⟨1000, og [], []⟩ := by
 obtain ⟨v, s'⟩ := r
 have bk := (aKx hP hl (n + 1) n (by omega)).block 0 ⟨a, 0, 0⟩ v s' (by omega) ha he
 have hf := kS (l := l) (d := 0) (s := s') (h := ⟨1001, og (srL l 0 s'), []⟩) (R := 1000) (by decide) rfl
 refine SCall.listed (fn := Go.Proofs.Tryd.f17) (by kernel_rfl) aZe (by kernel_rfl) (by kernel_rfl) (Nat.le_refl _) rfl (trivial) (by exact aNa _) ?_
 unfold aZl
 unfold lsV
 repeat (refine WR.seq ?_)
 refine WR.reg (WQ.aA [] 1000 _ _ _ _ rfl (WQ.aB ?_))
 refine WR.seq (WR.reg (WQ.aA [7, 12] 1000 _ _ _ _ rfl (WQ.aB ?_)))
 repeat (refine WR.seq ?_)
 refine WR.reg (WQ.aA [] 2 _ _ _ _ rfl ?_)
 rw [show decide ((a : Int) < 0) = false from decide_eq_false (by omega)]
 refine WQ.aA [] 4 _ _ _ _ rfl ?_
 rw [List.length_map]
 refine WQ.aA [] 1 _ _ _ _ rfl ?_
 rw [show decide ((a : Int) > (l.length : Int)) = false from decide_eq_false (by omega)]
 refine WQ.aA [] 1000 _ _ _ _ rfl (WQ.aB ?_)
 repeat (refine WR.seq ?_)
 refine WR.aG rfl (WR.skip ?_)
 unfold aHc
 repeat (refine WR.seq ?_)
 refine WR.reg (WQ.aA [] 1 _ _ _ _ rfl ?_)
 refine WQ.aE rfl rfl rfl rfl rfl (jU bk trivial (by exact ⟨eJ _, trivial⟩) (h := ⟨1001, og [(1000, srO l 0 ⟨a, 0, 0⟩)], [(6, [.int .i64 0, .int .i64 0])]⟩) (R := 1000) (by decide) rfl) (.put .base rfl) rfl ?_
 refine WQ.aA [] 1000 _ _ _ _ rfl (WQ.aB ?_)
 repeat (refine WR.seq ?_)
 refine WR.reg (WQ.aA [] 1 _ _ _ _ rfl ?_)
 refine WQ.aE rfl rfl rfl rfl rfl (SCall.fD hf _) .base rfl ?_
 cases h1 : cC s' with
 | false =>
  have e : stV (v, s') = .tup [.lst [] (.ex 0), .int .i64 0, .agg (dgX s'.p s'.c)] := by unfold stV; rw [h1]
  rw [e]
  refine WQ.aA [] 1000 _ _ _ _ rfl (WQ.aB ?_)
  repeat (refine WR.seq ?_)
  refine WR.aK rfl ?_
  refine WR.seq (WR.aW bE (DW.aA [] 1000 _ _ _ _ _ _ rfl ?_))
  refine DW.stS (by repeat (first | exact .nil | refine PendR.aI rfl ?_ | refine PendR.aH rfl ?_ | refine PendR.aD rfl ?_)) rfl rfl rfl rfl (DW.aA [] 1000 _ _ _ _ _ _ rfl (DW.dN (by repeat (first | exact .nil | refine PendR.aI rfl ?_ | refine PendR.aH rfl ?_ | refine PendR.aD rfl ?_)) ?_))
  exact WR.ret ⟨rfl, rfl, ⟨_, rfl, by repeat (first | exact VLe.refl _ | exact VLe.unk _ _ | refine VLe.tup ?_ | refine VLe.agg ?_ | exact VLL.nil | refine VLL.cons ?_ ?_)⟩, fun b hb => aIa b hb⟩
 | true =>
  have e : stV (v, s') = .tup [.lst (dB v) .unk, .int .i64 s'.a, .agg (dgX 0 0)] := by unfold stV; rw [h1]
  rw [e]
  refine WQ.aA [] 1000 _ _ _ _ rfl (WQ.aB ?_)
  repeat (refine WR.seq ?_)
  refine WR.aG rfl (WR.skip ?_)
  refine WR.seq (WR.aW bE (DW.aA [] 1000 _ _ _ _ _ _ rfl ?_))
  refine DW.stS (by repeat (first | exact .nil | refine PendR.aI rfl ?_ | refine PendR.aH rfl ?_ | refine PendR.aD rfl ?_)) rfl rfl rfl rfl (DW.aA [] 1000 _ _ _ _ _ _ rfl (DW.dN (by repeat (first | exact .nil | refine PendR.aI rfl ?_ | refine PendR.aH rfl ?_ | refine PendR.aD rfl ?_)) ?_))
  exact WR.ret ⟨rfl, rfl, ⟨_, rfl, by repeat (first | exact VLe.refl _ | exact VLe.unk _ _ | refine VLe.tup ?_ | refine VLe.agg ?_ | exact VLL.nil | refine VLL.cons ?_ ?_)⟩, fun b hb => aIa b hb⟩
theorem rQ {l : List Tz} {P : Nat → R Ex} (hP : ParseOk l P) (hl : l.length < 20000) (n a : Nat) (ha : a ≤ l.length) {r : List Sx × Sr} (he : (bC l P n).block 0 ⟨a, 0, 0⟩ = some r) (h : H) :
  SCall Go.Proofs.Tryd.prog [0] 17 [lsV l, .int .i64 a] none h (.ret (stV r)) none h :=
 SCall.more (SCall.dY rfl (aDd hP hl n a ha he) (by exact ⟨rH l, trivial, trivial⟩) (by exact aNa _) h)
theorem aEa {l : List Tz} {P : Nat → R Ex} (hP : ParseOk l P) (a : Nat) (ha : a ≤ l.length) : ∃ N r, ∀ n, N ≤ n → (bC l P n).block 0 ⟨a, 0, 0⟩ = some r := (aXz hP l.length a (by omega) ha).block 0 ⟨a, 0, 0⟩ rfl
end Go.VM
end
