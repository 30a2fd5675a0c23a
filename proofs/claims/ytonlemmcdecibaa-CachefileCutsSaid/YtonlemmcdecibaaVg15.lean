/- laid for this seat: VcLru VcAsk2 VcHolds VcAsks VrStab VrStab2 -/
import Derived.Test.YtonlemmcdecibaaVg14
import Derived.Test.YtonlemmcdecibaaVg07
section
/- What is kept are the latest keys. -/
set_option maxRecDepth 100000
set_option linter.unusedVariables false
set_option linter.unusedSimpArgs false
namespace Go.VM
def takeS (most : Int) : List (List Nat) → List (List Nat) → Int → List (List Nat)
 | [], _, _ => []
 | x :: Q, out, b => if x ∈ out then takeS most Q out b else if (out.length : Int) ≥ most ∨ ((3 * x.length : Nat) : Int) > b then [] else x :: takeS most Q (out ++ [x]) (b - ((3 * x.length : Nat) : Int))
theorem takeS_full {most : Int} : ∀ {Q out : List (List Nat)} {b : Int}, (out.length : Int) ≥ most → takeS most Q out b = []
 | [], _, _, _ => rfl
 | x :: Q, out, b, h => by
  unfold takeS
  split
  ·exact takeS_full h
  ·rw [if_pos (.inl h)]
theorem lru {most : Int} {k : List Nat} : ∀ (Q oX oY : List (List Nat)) (bX bY : Int), 0 ≤ bY → (∀ x, x ∈ oY ↔ x = k ∨ x ∈ oX) →
  ((k ∉ oX ∧ oY.length = oX.length + 1 ∧ bY = bX - ((3 * k.length : Nat) : Int)) ∨ (k ∈ oX ∧ oY.length = oX.length ∧ bY = bX)) →
  oY ++ takeS most Q oY bY = askG most k (takeS most Q oX bX) bY.toNat oY
 | [], oX, oY, bX, bY, _, _, _ => by simp [takeS, askG]
 | x :: Q, oX, oY, bX, bY, h0, hm, hc => by
  by_cases hx : x ∈ oX
  ·have hy : x ∈ oY := (hm x).2 (.inr hx)
   simp only [takeS, if_pos hx, if_pos hy]
   exact lru Q oX oY bX bY h0 hm hc
  ·by_cases hk : x = k
   ·subst hk
    have hy : x ∈ oY := (hm x).2 (.inl rfl)
    obtain ⟨_, hl, hb⟩ | ⟨h1, _⟩ := hc
    ·simp only [takeS, if_neg hx, if_pos hy]
     by_cases hs : (oX.length : Int) ≥ most ∨ ((3 * x.length : Nat) : Int) > bX
     ·rw [if_pos hs]
      have hf : (oY.length : Int) ≥ most := by omega
      rw [takeS_full hf]
      simp [askG]
     ·rw [if_neg hs]
      by_cases hf : (oY.length : Int) < most
      ·have e : askG most x (x :: takeS most Q (oX ++ [x]) (bX - ((3 * x.length : Nat) : Int))) bY.toNat oY = askG most x (takeS most Q (oX ++ [x]) (bX - ((3 * x.length : Nat) : Int))) bY.toNat oY := by
        simp only [askG, hf, not_true, if_false, if_true]
       rw [e]
       refine lru Q (oX ++ [x]) oY _ bY h0 (fun z => ?_) (.inr ⟨by simp, by simp; omega, hb⟩)
       rw [hm z, List.mem_append, List.mem_singleton]
       constructor
       ·rintro (h | h)
        ·exact .inl h
        ·exact .inr (.inl h)
       ·rintro (h | h | h)
        ·exact .inl h
        ·exact .inr h
        ·exact .inl h
      ·rw [takeS_full (by omega)]
       have e : askG most x (x :: takeS most Q (oX ++ [x]) (bX - ((3 * x.length : Nat) : Int))) bY.toNat oY = oY := by
        simp only [askG, hf, not_false_eq_true, if_true]
       rw [e]; simp
    ·exact absurd h1 hx
   ·have hy : x ∉ oY := fun h => by rcases (hm x).1 h with q | q; exact hk q; exact hx q
    have hle : oX.length ≤ oY.length ∧ bY ≤ bX := by
     rcases hc with ⟨_, h2, h3⟩ | ⟨_, h2, h3⟩ <;> constructor <;> omega
    simp only [takeS, if_neg hx, if_neg hy]
    by_cases hs : (oX.length : Int) ≥ most ∨ ((3 * x.length : Nat) : Int) > bX
    ·rw [if_pos hs, if_pos (by omega)]
     simp [askG]
    ·rw [if_neg hs]
     by_cases hf : (oY.length : Int) < most
     ·by_cases hg : ((3 * x.length : Nat) : Int) > bY
      ·have e : askG most k (x :: takeS most Q (oX ++ [x]) (bX - ((3 * x.length : Nat) : Int))) bY.toNat oY = oY := by
        have hg2 : 3 * x.length > bY.toNat := by omega
        simp only [askG, hf, not_true, if_false, if_neg hk, if_pos hg2]
       rw [if_pos (.inr hg), e]; simp
      ·have hg2 : ¬ 3 * x.length > bY.toNat := by omega
       have e : askG most k (x :: takeS most Q (oX ++ [x]) (bX - ((3 * x.length : Nat) : Int))) bY.toNat oY = askG most k (takeS most Q (oX ++ [x]) (bX - ((3 * x.length : Nat) : Int))) (bY.toNat - 3 * x.length) (oY ++ [x]) := by
        simp only [askG, hf, not_true, if_false, if_neg hk, if_neg hg2]
       rw [if_neg (by omega), e, show bY.toNat - 3 * x.length = (bY - ((3 * x.length : Nat) : Int)).toNat by omega]
       have := lru (most := most) Q (oX ++ [x]) (oY ++ [x]) (bX - ((3 * x.length : Nat) : Int)) (bY - ((3 * x.length : Nat) : Int)) (by omega) (fun z => by
        rw [List.mem_append, List.mem_append, hm z]
        constructor
        ·rintro ((h | h) | h)
         ·exact .inl h
         ·exact .inr (.inl h)
         ·exact .inr (.inr h)
        ·rintro (h | h | h)
         ·exact .inl (.inl h)
         ·exact .inl (.inr h)
         ·exact .inr h) (by
        rcases hc with ⟨h1, h2, h3⟩ | ⟨h1, h2, h3⟩
        ·exact .inl ⟨fun h => by rcases List.mem_append.1 h with q | q; exact h1 q; exact hk (List.mem_singleton.1 q).symm, by simp; omega, by omega⟩
        ·exact .inr ⟨List.mem_append.2 (.inl h1), by simp; omega, by omega⟩)
       rw [← this]
       simp
     ·rw [if_pos (.inl (by omega))]
      have e : askG most k (x :: takeS most Q (oX ++ [x]) (bX - ((3 * x.length : Nat) : Int))) bY.toNat oY = oY := by
       simp only [askG, hf, not_false_eq_true, if_true]
      rw [e]; simp
def keepK (most bytes : Int) (Q : List (List Nat)) : List (List Nat) := takeS most Q [] bytes
theorem keep_asked {most bytes : Int} {k : List Nat} (Q : List (List Nat)) (hm : ¬ most < 1) (hb : ¬ ((3 * k.length : Nat) : Int) > bytes) : keepK most bytes (k :: Q) = askF most bytes (keepK most bytes Q) k := by
 have h1 := lru (most := most) (k := k) Q [] [k] bytes (bytes - ((3 * k.length : Nat) : Int)) (by omega) (fun x => by simp) (.inl ⟨by simp, rfl, rfl⟩)
 unfold keepK askF
 rw [if_neg (fun q => by rcases q with q | q; exact hm q; exact hb q), ← h1]
 simp only [takeS]
 rw [if_neg (by simp), if_neg (fun q => by rcases q with q | q; simp at q; omega; exact hb q)]
 rfl
theorem takeS_drop {most : Int} {k : List Nat} : ∀ (A B out : List (List Nat)) (b : Int), k ∈ out → takeS most (A ++ k :: B) out b = takeS most (A ++ B) out b
 | [], B, out, b, h => by simp only [List.nil_append, takeS, if_pos h]
 | x :: A, B, out, b, h => by
  simp only [List.cons_append, takeS]
  split
  ·exact takeS_drop A B out b h
  ·split
   ·rfl
   ·rw [takeS_drop A B (out ++ [x]) _ (List.mem_append.2 (.inl h))]
theorem keep_touch {most bytes : Int} {k : List Nat} (A B : List (List Nat)) (hm : ¬ most < 1) (hb : ¬ ((3 * k.length : Nat) : Int) > bytes) : keepK most bytes (k :: (A ++ B)) = keepK most bytes (k :: (A ++ k :: B)) := by
 unfold keepK
 simp only [takeS]
 rw [if_neg (by simp), if_neg (fun q => by rcases q with q | q; simp at q; omega; exact hb q), if_neg (by simp), if_neg (fun q => by rcases q with q | q; simp at q; omega; exact hb q), takeS_drop _ _ _ _ (by simp)]
theorem takeS_again {most : Int} : ∀ (Q out : List (List Nat)) (b : Int), takeS most (takeS most Q out b) out b = takeS most Q out b
 | [], _, _ => rfl
 | x :: Q, out, b => by
  by_cases hx : x ∈ out
  ·rw [show takeS most (x :: Q) out b = takeS most Q out b from by simp only [takeS, if_pos hx]]
   exact takeS_again Q out b
  ·by_cases hs : (out.length : Int) ≥ most ∨ ((3 * x.length : Nat) : Int) > b
   ·rw [show takeS most (x :: Q) out b = [] from by simp only [takeS, if_neg hx, if_pos hs]]; rfl
   ·have e : takeS most (x :: Q) out b = x :: takeS most Q (out ++ [x]) (b - ((3 * x.length : Nat) : Int)) := by simp only [takeS, if_neg hx, if_neg hs]
    rw [e]
    have e2 : ∀ R, takeS most (x :: R) out b = x :: takeS most R (out ++ [x]) (b - ((3 * x.length : Nat) : Int)) := fun R => by simp only [takeS, if_neg hx, if_neg hs]
    rw [e2, takeS_again]
theorem keep_again (most bytes : Int) (Q : List (List Nat)) : keepK most bytes (keepK most bytes Q) = keepK most bytes Q := takeS_again Q [] bytes
end Go.VM
end
section
/- The model of what is kept: a key is asked: all of it. -/
set_option maxRecDepth 100000
set_option linter.unusedVariables false
set_option linter.unusedSimpArgs false
namespace Go.VM
open Go.RowKit
def modV (ms : List (List Nat)) (most bytes : Int) : V := .agg [.lst (ms.map kst) .unk, .int .i64 most, .int .i64 bytes]
theorem kst_in {D : Nat → Prop} (ms : List (List Nat)) : Inss D (ms.map kst) := Inss_map fun x _ => ⟨trivial, trivial⟩
theorem modV_in {D : Nat → Prop} (ms : List (List Nat)) (most bytes : Int) : (modV ms most bytes).In D := ⟨⟨kst_in ms, trivial⟩, trivial, trivial, trivial⟩
theorem asked_spec (ms : List (List Nat)) (most bytes : Int) (key : List Nat) (hms : ms.length ≤ 1000000) (hxs : ∀ x ∈ ms, x.length ≤ 1000000) (hk : key.length ≤ 1000000) (hb0 : -9223372036854775808 ≤ bytes) (hb : bytes < 9223372036854775808) (h : H) :
  SCall Go.Proofs.Try.prog [] 20 [modV ms most bytes, .str key] none h (.ret (modV (askF most bytes ms key) most bytes)) none h := by
 refine SCall.pure0 rfl ?_ (by exact ⟨modV_in ms most bytes, trivial, trivial⟩) (by exact modV_in _ _ _) h
 refine SCall.listed (fn := Go.Proofs.Try.f20) (by kernel_rfl) res20 (by kernel_rfl) (by kernel_rfl) (Nat.le_refl _) rfl (trivial) (by exact modV_in _ _ _) ?_
 unfold rc20
 have hmul : IntKind.i64.wrap (3 * (key.length : Int)) = ((3 * key.length : Nat) : Int) := by rw [wrap64 (by omega) (by omega)]; omega
 unfold askF
 refine WR.seq (WR.reg (WQ.runS [] 1000 _ _ _ _ rfl (WQ.nilS ?_)))
 refine WR.seq (WR.seq (WR.reg (WQ.runS [] 3 _ _ _ _ rfl ?_)))
 by_cases h1 : most < 1
 ·rw [show decide (most < 1) = true from decide_eq_true h1, if_pos (.inl h1)]
  refine WQ.runS [] 1000 _ _ _ _ rfl (WQ.nilS (WR.condT rfl ?_))
  refine WR.seq (WR.reg (WQ.runS [] 1000 _ _ _ _ rfl (WQ.nilS ?_)))
  refine WR.ret ⟨rfl, rfl, ⟨_, rfl, VLe.refl _⟩, fun b _ => rfl⟩
 ·rw [show decide (most < 1) = false from decide_eq_false h1]
  refine WQ.runS [] 4 _ _ _ _ rfl ?_
  rw [hmul]
  refine WQ.runS [] 3 _ _ _ _ rfl ?_
  by_cases h2 : ((3 * key.length : Nat) : Int) > bytes
  ·rw [show decide (((3 * key.length : Nat) : Int) > bytes) = true from decide_eq_true h2, if_pos (.inr h2)]
   refine WQ.runS [] 1000 _ _ _ _ rfl (WQ.nilS (WR.condT rfl ?_))
   refine WR.seq (WR.reg (WQ.runS [] 1000 _ _ _ _ rfl (WQ.nilS ?_)))
   refine WR.ret ⟨rfl, rfl, ⟨_, rfl, VLe.refl _⟩, fun b _ => rfl⟩
  ·rw [show decide (((3 * key.length : Nat) : Int) > bytes) = false from decide_eq_false h2, if_neg (fun q => by rcases q with q | q; exact h1 q; exact h2 q)]
   refine WQ.runS [] 1000 _ _ _ _ rfl (WQ.nilS (WR.condF rfl (WR.skip ?_)))
   refine WR.seq (WR.reg (WQ.runS [] 1000 _ _ _ _ rfl (WQ.nilS ?_)))
   refine WR.seq (WR.reg (WQ.runS [] 5 _ _ _ _ rfl ?_))
   rw [hmul]
   refine WQ.runS [] 1 _ _ _ _ rfl ?_
   have hleft : IntKind.i64.wrap (bytes - ((3 * key.length : Nat) : Int)) = (((bytes - ((3 * key.length : Nat) : Int)).toNat : Nat) : Int) := by rw [wrap64 (by omega) (by omega)]; omega
   rw [hleft]
   have hle : (((bytes - ((3 * key.length : Nat) : Int)).toNat : Nat) : Int) ≤ bytes := by omega
   generalize (bytes - ((3 * key.length : Nat) : Int)).toNat = left at hle ⊢
   refine WQ.runS [] 1000 _ _ _ _ rfl (WQ.nilS ?_)
   refine WR.seq (WR.seq (WR.reg (WQ.runS [] 1000 _ _ _ _ rfl (WQ.nilS ?_))))
   refine WR.block (WR.loop ?_)
   refine WLr.weak ?_ (ask_loop ms most bytes key hms hxs ms.length 0 left [key] false (by omega) hle hb (Nat.le_refl _) (by simp) (.inr rfl) (fun tm t' g5 g2 g4 => ?_))
   ·refine SW.tellR ?_ ?_
    ·repeat (first | exact .nil | refine .cons rfl (.v (VLe.refl _)) ?_ | refine .cons rfl (.l _ _ rfl) ?_ | refine .cons rfl (.v (VLe.unk _ _)) ?_)
    ·repeat (first | exact .nil | refine .cons rfl (.inl rfl) ?_)
   ·rw [List.drop_zero] at g5 ⊢
    show WR Go.Proofs.Try.prog [] _ rc20_J2 _ _ _
    refine WR.weak (s := SL.toS ⟨[(5, .v (.lst ((askG most key ms left [key]).map kst) .unk)), (2, .l 2 0), (4, .l 4 0)], [], none, askNx t', askOl t' (askG most key ms left [key]).length, askLc ms most bytes⟩) (SW.tellR (.cons g5 (.v (VLe.unk _ _)) (.cons g2 (.l _ _ rfl) (.cons g4 (.l _ _ rfl) .nil))) (.cons rfl (.inl rfl) (.cons rfl (.inl rfl) .nil))) ?_
    unfold rc20_J2
    refine WR.seq (WR.reg (WQ.runS [] 1000 _ _ _ _ rfl (WQ.nilS ?_)))
    refine WR.ret ⟨rfl, rfl, ⟨_, rfl, VLe.refl _⟩, fun b hb => ?_⟩
    have hb : b < 1000 := hb
    show none = og (askOl t' _) b
    cases t' with
    | false => rfl
    | true =>
     show none = og [(1000, _)] b
     rw [og_one, if_neg (by omega)]
end Go.VM
end
section
/- The model of what is kept: does a cache hold it. -/
set_option maxRecDepth 100000
set_option linter.unusedVariables false
set_option linter.unusedSimpArgs false
namespace Go.VM
open Go.RowKit
theorem skipS {P : Program} {gl : List Nat} {fr : Fr} {ds : List Nat} {anc : Nat} {r : RI} {hs : List (RI × List RI)} {l2 : List RI} {tm tm1 : TM} {df : List AD} {u : Option AMode} {nx : Nat} {ol : OL} {lc : LM} {es : List ER} {QN : S → Prop} {QX : X → S → Prop} (pd : PendR P gl fr.nt ⟨nx, og ol, lc⟩ anc es) (hw : wantR r.gd (tsub tm r.rd) = some false) (hp : putT fr.nt tm r.dst (.v undefV) = some tm1)
  (h : DW P gl fr ds l2 r.anc hs (SL.toS ⟨tm1, df, u, nx, ol, lc⟩) es QN QX) : DW P gl fr ds [] anc ((r, l2) :: hs) (SL.toS ⟨tm, df, u, nx, ol, lc⟩) es QN QX :=
 DW.skip (s := SL.toS ⟨tm, df, u, nx, ol, lc⟩) pd hw hp h
def holdE (e : EZ) (x : List Nat) : Bool := decide (e.k = x) && decide (e.v = x ++ x) && e.live
def holdsG : List EZ → List (List Nat) → Bool
 | [], [] => true
 | e :: R, x :: ms => holdE e x && holdsG R ms
 | _, _ => false
def hLc (ms : List (List Nat)) (most bytes : Int) : LM := [(2, [.lst (ms.map kst) .unk, .int .i64 most, .int .i64 bytes])]
theorem holds_loop {QN : S → Prop} {QX : X → S → Prop} (R : List EZ) (ms : List (List Nat)) (most bytes : Int) (hl : R.length = ms.length) (hms : ms.length ≤ 1000000) (hxs : ∀ x ∈ ms, x.length ≤ 1000000) (nx : Nat) (ol : OL) : ∀ (m i : Nat), i + m = ms.length →
  (holdsG (R.drop i) (ms.drop i) = true → ∀ tm lc, QX (.exit 0) (SL.toS ⟨tm, [], none, nx, ol, lc⟩)) →
  (holdsG (R.drop i) (ms.drop i) = false → ∀ s, RetS Go.Proofs.Try.prog Go.Proofs.Try.f21 (.bool false) nx ol s → QX .ret s) →
  WLr Go.Proofs.Try.prog [] ⟨Go.Proofs.Try.f21.ntmps, none, 21⟩ rc21_L1 (SL.toS ⟨[(2, .l 2 0), (5, .v (.lst (R.map encZ) .unk)), (6, .v (.int .i64 i))], [], none, nx, ol, hLc ms most bytes⟩) QN QX := by
 intro m
 have hl2 : (R.map encZ).length = R.length := List.length_map ..
 induction m with
 | zero =>
  intro i hi h1 h2
  unfold rc21_L1
  refine WLr.of ?_
  refine WR.seq (WR.seq (WR.reg (WQ.runS [] 1000 _ _ _ _ rfl (WQ.nilS ?_))))
  rw [show decide ((i : Int) < ((R.map encZ).length : Int)) = false from decide_eq_false (by omega)]
  refine WR.condF rfl (WR.exit ?_)
  exact h1 (by rw [List.drop_eq_nil_iff.2 (by omega), List.drop_eq_nil_iff.2 (by omega)]; rfl) _ _
 | succ m ih =>
  intro i hi h1 h2
  have hlt : i < ms.length := by omega
  obtain ⟨x, hx⟩ : ∃ x, ms[i]? = some x := ⟨_, List.getElem?_eq_getElem hlt⟩
  obtain ⟨e, he⟩ : ∃ e, R[i]? = some e := ⟨_, List.getElem?_eq_getElem (by omega)⟩
  have hd : ms.drop i = x :: ms.drop (i + 1) := by
   rw [List.drop_eq_getElem_cons hlt]
   congr 1
   rw [List.getElem?_eq_getElem hlt] at hx; exact Option.some.inj hx
  have hdR : R.drop i = e :: R.drop (i + 1) := by
   rw [List.drop_eq_getElem_cons (by omega)]
   congr 1
   rw [List.getElem?_eq_getElem (by omega)] at he; exact Option.some.inj he
  have g0 : (ms.map kst)[i]? = some (kst x) := by rw [List.getElem?_map, hx]; rfl
  have g1 : (R.map encZ)[i]? = some (encZ e) := by rw [List.getElem?_map, he]; rfl
  have hxl : x.length ≤ 1000000 := hxs x (List.mem_of_getElem? hx)
  have hnext : IntKind.i64.wrap ((i : Int) + 1) = ((i + 1 : Nat) : Int) := by rw [wrap64 (by omega) (by omega)]; rfl
  rw [hd, hdR] at h1 h2
  unfold rc21_L1
  refine WLr.of ?_
  refine WR.seq (WR.seq (WR.reg (WQ.runS [] 1000 _ _ _ _ rfl (WQ.nilS ?_))))
  rw [show decide ((i : Int) < ((R.map encZ).length : Int)) = true from decide_eq_true (by omega)]
  refine WR.condT rfl (WR.skip ?_)
  refine WR.seq (WR.block (WR.seq (WR.dreg hmix (DW.runS [] 2 _ _ _ _ _ _ rfl ?_))))
  refine DW.lightS rfl (ia_at rfl rfl g1 rfl) rfl (DW.runS [] 5 _ _ _ _ _ _ rfl ?_)
  refine DW.lightS rfl (ia_at rfl rfl g0 rfl) rfl (DW.runS [] 2 _ _ _ _ _ _ rfl ?_)
  by_cases hk : e.k = x
  ·rw [show decide (e.k = x) = true from decide_eq_true hk]
   refine DW.runS [] 3 _ _ _ _ _ _ rfl ?_
   refine DW.lightS rfl (ia_at rfl rfl g1 rfl) rfl (DW.runS [] 5 _ _ _ _ _ _ rfl ?_)
   refine DW.lightS rfl (ia_at rfl rfl g0 rfl) rfl (DW.runS [] 1 _ _ _ _ _ _ rfl ?_)
   refine DW.callH (by repeat (first | exact .nil | refine PendR.passM rfl ?_ | refine PendR.sameM rfl ?_ | refine PendR.lightM rfl ?_)) rfl rfl rfl rfl rfl (value_spec x (by omega) _) .base rfl (DW.runS [] 1 _ _ _ _ _ _ rfl ?_)
   by_cases hv : e.v = x ++ x
   ·rw [show decide (e.v = x ++ x) = true from decide_eq_true hv]
    refine DW.runS [] 4 _ _ _ _ _ _ rfl ?_
    refine DW.lightS rfl (ia_at rfl rfl g1 rfl) rfl (DW.runS [] 1000 _ _ _ _ _ _ rfl ?_)
    refine DW.finS (by repeat (first | exact .nil | refine PendR.passM rfl ?_ | refine PendR.sameM rfl ?_ | refine PendR.lightM rfl ?_)) ?_
    cases hlv : e.live with
    | true =>
     have hE : holdE e x = true := by simp [holdE, hk, hv, hlv]
     refine WR.condF rfl (WR.skip ?_)
     unfold rc21_J1
     refine WR.reg (WQ.runS [] 1000 _ _ _ _ rfl (WQ.nilS ?_))
     rw [hnext]
     simp only [holdsG, hE, Bool.true_and] at h1 h2
     refine WIr.again (WLr.weak ?_ (ih (i + 1) (by omega) h1 h2))
     refine SW.tellR ?_ ?_
     ·repeat (first | exact .nil | refine .cons rfl (.v (VLe.refl _)) ?_ | refine .cons rfl (.l _ _ rfl) ?_ | refine .cons rfl (.v (VLe.unk _ _)) ?_)
     ·repeat (first | exact .nil | refine .cons rfl (.inl rfl) ?_)
    | false =>
     have hE : holdE e x = false := by simp [holdE, hlv]
     refine WR.condT rfl ?_
     refine WR.seq (WR.reg (WQ.runS [] 1000 _ _ _ _ rfl (WQ.nilS ?_)))
     exact WR.ret (h2 (by simp only [holdsG, hE, Bool.false_and]) _ ⟨rfl, rfl, ⟨_, rfl, VLe.refl _⟩, fun b _ => rfl⟩)
   ·rw [show decide (e.v = x ++ x) = false from decide_eq_false hv]
    have hE : holdE e x = false := by simp [holdE, hv]
    refine DW.runS [] 1000 _ _ _ _ _ _ rfl ?_
    refine DW.finS (by repeat (first | exact .nil | refine PendR.passM rfl ?_ | refine PendR.sameM rfl ?_ | refine PendR.lightM rfl ?_)) ?_
    refine WR.condT rfl ?_
    refine WR.seq (WR.reg (WQ.runS [] 1000 _ _ _ _ rfl (WQ.nilS ?_)))
    exact WR.ret (h2 (by simp only [holdsG, hE, Bool.false_and]) _ ⟨rfl, rfl, ⟨_, rfl, VLe.refl _⟩, fun b _ => rfl⟩)
  ·rw [show decide (e.k = x) = false from decide_eq_false hk]
   have hE : holdE e x = false := by simp [holdE, hk]
   refine DW.runS [] 1000 _ _ _ _ _ _ rfl ?_
   refine skipS (by repeat (first | exact .nil | refine PendR.passM rfl ?_ | refine PendR.sameM rfl ?_ | refine PendR.lightM rfl ?_)) rfl rfl ?_
   refine DW.runS [] 1000 _ _ _ _ _ _ rfl ?_
   refine DW.finS (by repeat (first | exact .nil | refine PendR.passM rfl ?_ | refine PendR.sameM rfl ?_ | refine PendR.lightM rfl ?_)) ?_
   refine WR.condT rfl ?_
   refine WR.seq (WR.reg (WQ.runS [] 1000 _ _ _ _ rfl (WQ.nilS ?_)))
   exact WR.ret (h2 (by simp only [holdsG, hE, Bool.false_and]) _ ⟨rfl, rfl, ⟨_, rfl, VLe.refl _⟩, fun b _ => rfl⟩)
theorem holdsG_len : ∀ {R : List EZ} {ms : List (List Nat)}, R.length ≠ ms.length → holdsG R ms = false
 | [], [], h => absurd rfl h
 | [], _ :: _, _ => rfl
 | _ :: _, [], _ => rfl
 | e :: R, x :: ms, h => by
  simp only [holdsG, holdsG_len (R := R) (ms := ms) (by simpa using h), Bool.and_false]
theorem holds_core (d : Dk) (C : CSt) (cf : CFit C) (ms : List (List Nat)) (most bytes : Int) (hms : ms.length ≤ 1000000) (hxs : ∀ x ∈ ms, x.length ≤ 1000000) :
  SCall Go.Proofs.Try.prog [] 21 [modV ms most bytes, .ptr 1002 0] none ⟨1004, og (CO d C 1003), []⟩ (.ret (.bool (holdsG (runP C.L C.most C.bytes) ms))) none ⟨1004, og (CO d C 1003), []⟩ := by
 refine cacheCall (fn := Go.Proofs.Try.f21) (by kernel_rfl) res21 (by kernel_rfl) (by kernel_rfl) (Nat.le_refl _) (Nat.le_refl _) (by omega) trivial ?_
 have kp := keptCore d C 1003 1004 (Nat.le_refl _) (by omega) cf
 generalize runP C.L C.most C.bytes = R at kp ⊢
 unfold rc21
 refine WR.seq (WR.reg (WQ.runS [] 1000 _ _ _ _ rfl (WQ.nilS ?_)))
 refine WR.seq (WR.reg (WQ.runS [] 1 _ _ _ _ rfl ?_))
 refine WQ.callH rfl rfl rfl rfl rfl (kp.relc _) .base rfl (WQ.runS [] 1000 _ _ _ _ rfl (WQ.nilS ?_))
 refine WR.seq (WR.seq (WR.reg (WQ.runS [] 1000 _ _ _ _ rfl (WQ.nilS ?_))))
 by_cases hl : R.length = ms.length
 ·rw [show decide (((R.map encZ).length : Int) = ((ms.map kst).length : Int)) = true from decide_eq_true (by rw [List.length_map, List.length_map]; omega)]
  refine WR.condF rfl (WR.skip ?_)
  refine WR.seq (WR.seq (WR.reg (WQ.runS [] 1000 _ _ _ _ rfl (WQ.nilS ?_))))
  refine WR.block (WR.loop ?_)
  refine WLr.weak ?_ (holds_loop R ms most bytes hl hms hxs 1004 (CO d C 1003) ms.length 0 (by omega) (fun h1 tm lc => ?_) (fun h2 s q => ?_))
  ·refine SW.tellR ?_ ?_
   ·repeat (first | exact .nil | refine .cons rfl (.v (VLe.refl _)) ?_ | refine .cons rfl (.l _ _ rfl) ?_ | refine .cons rfl (.v (VLe.unk _ _)) ?_)
   ·repeat (first | exact .nil | refine .cons rfl (.inl rfl) ?_)
  ·rw [List.drop_zero, List.drop_zero] at h1
   rw [h1]
   show WR Go.Proofs.Try.prog [] _ rc21_J2 _ _ _
   unfold rc21_J2
   refine WR.seq (WR.reg (WQ.runS [] 1000 _ _ _ _ rfl (WQ.nilS ?_)))
   refine WR.ret ⟨rfl, rfl, ⟨_, rfl, VLe.refl _⟩, fun b _ => rfl⟩
  ·rw [List.drop_zero, List.drop_zero] at h2
   rw [h2]
   exact q
 ·rw [show decide (((R.map encZ).length : Int) = ((ms.map kst).length : Int)) = false from decide_eq_false (by rw [List.length_map, List.length_map]; omega)]
  rw [holdsG_len hl]
  refine WR.condT rfl ?_
  refine WR.seq (WR.reg (WQ.runS [] 1000 _ _ _ _ rfl (WQ.nilS ?_)))
  refine WR.ret ⟨rfl, rfl, ⟨_, rfl, VLe.refl _⟩, fun b _ => rfl⟩
end Go.VM
end
section
/- A key is asked, and put, if it is not kept. -/
set_option maxRecDepth 100000
set_option linter.unusedVariables false
set_option linter.unusedSimpArgs false
namespace Go.VM
open Go.RowKit
def keptC' (C : CSt) : List Nat := keptF C.L C.most C.bytes
def asksP (d : Dk) (C : CSt) (k : List Nat) : Dk × CSt × Int := match findK C.L k (keptC' C) with
 | none => putP d C k (k ++ k)
 | some i => ((touchP d C 3 i).1, (touchP d C 3 i).2.1, if (touchP d C 3 i).2.2 = 0 then (if valAt C.L i = k ++ k then 0 else 1) else (touchP d C 3 i).2.2)
def asksR (d : Dk) (C : CSt) (k : List Nat) : Nat := match findK C.L k (keptC' C) with
 | none => putR d C k (k ++ k)
 | some i => touchR d C 3 i
def asksN (d : Dk) (C : CSt) (k : List Nat) : Nat := match findK C.L k (keptC' C) with
 | none => putNn d C k (k ++ k)
 | some i => touchN d C 3 i
theorem asksR_ok (d : Dk) (C : CSt) (k : List Nat) : 1003 ≤ asksR d C k ∧ asksR d C k < 1004 + asksN d C k := by
 unfold asksR asksN
 split
 ·exact putR_ok _ _ _ _
 ·exact touchR_ok _ _ _ _
theorem asks_core {d : Dk} {C : CSt} (k : List Nat) (hk : k.length ≤ 333) (bud : Bud d C 2000 1 20) :
  SCall Go.Proofs.Try.prog [] 19 [.ptr 1002 0, .str k] none ⟨1004, og (CO d C 1003), []⟩ (.ret (.int .i64 (asksP d C k).2.2)) none ⟨1004 + asksN d C k, og (CO (asksP d C k).1 (asksP d C k).2.1 (asksR d C k)), []⟩ := by
 have hR := asksR_ok d C k
 refine cacheCall (fn := Go.Proofs.Try.f19) (by kernel_rfl) res19 (by kernel_rfl) (by kernel_rfl) (by omega) hR.1 hR.2 trivial ?_
 have hget := get_core k (bud.mono : Bud d C 100 0 10)
 have hput := put_core k (k ++ k) (by rw [List.length_append]; omega) bud
 unfold asksP asksR asksN keptC'
 unfold getP getR getN getW at hget
 unfold rc19
 refine WR.seq (WR.reg (WQ.runS [] 1000 _ _ _ _ rfl (WQ.nilS ?_)))
 refine WR.seq (WR.reg (WQ.runS [] 2 _ _ _ _ rfl ?_))
 cases hf : findK C.L k (keptF C.L C.most C.bytes) with
 | none =>
  simp only [hf] at hget
  refine WQ.callH rfl rfl rfl rfl rfl hget .base rfl (WQ.runS [] 1000 _ _ _ _ rfl (WQ.nilS ?_))
  refine WR.seq (WR.seq (WR.reg (WQ.runS [] 1000 _ _ _ _ rfl (WQ.nilS ?_))))
  refine WR.condF rfl (WR.skip ?_)
  refine WR.seq (WR.seq (WR.reg (WQ.runS [] 1000 _ _ _ _ rfl (WQ.nilS ?_))))
  refine WR.condT rfl ?_
  refine WR.seq (WR.reg (WQ.runS [] 3 _ _ _ _ rfl ?_))
  refine WQ.callH rfl rfl rfl rfl rfl (value_spec k (by omega) _) .base rfl ?_
  dsimp only
  generalize putP d C k (k ++ k) = T at hput ⊢
  refine WQ.callH rfl rfl rfl rfl rfl hput .base rfl (WQ.runS [] 1000 _ _ _ _ rfl (WQ.nilS ?_))
  refine WR.ret ⟨rfl, rfl, ⟨_, rfl, VLe.refl _⟩, fun b _ => rfl⟩
 | some i =>
  simp only [hf] at hget
  unfold getV at hget
  dsimp only
  generalize touchP d C 3 i = T at hget ⊢
  by_cases hz : T.2.2 = 0
  ·rw [if_pos hz] at hget ⊢
   refine WQ.callH rfl rfl rfl rfl rfl hget .base rfl (WQ.runS [] 1000 _ _ _ _ rfl (WQ.nilS ?_))
   refine WR.seq (WR.seq (WR.reg (WQ.runS [] 1000 _ _ _ _ rfl (WQ.nilS ?_))))
   refine WR.condF rfl (WR.skip ?_)
   refine WR.seq (WR.seq (WR.reg (WQ.runS [] 1000 _ _ _ _ rfl (WQ.nilS ?_))))
   refine WR.condF rfl (WR.skip ?_)
   refine WR.seq (WR.seq (WR.reg (WQ.runS [] 2 _ _ _ _ rfl ?_)))
   refine WQ.callH rfl rfl rfl rfl rfl (value_spec k (by omega) _) .base rfl (WQ.runS [] 1000 _ _ _ _ rfl (WQ.nilS ?_))
   by_cases hv : valAt C.L i = k ++ k
   ·rw [show decide (valAt C.L i = k ++ k) = true from decide_eq_true hv, if_pos hv]
    refine WR.condF rfl (WR.skip ?_)
    refine WR.seq (WR.reg (WQ.runS [] 1000 _ _ _ _ rfl (WQ.nilS ?_)))
    refine WR.ret ⟨rfl, rfl, ⟨_, rfl, VLe.refl _⟩, fun b _ => rfl⟩
   ·rw [show decide (valAt C.L i = k ++ k) = false from decide_eq_false hv, if_neg hv]
    refine WR.condT rfl ?_
    refine WR.seq (WR.reg (WQ.runS [] 1000 _ _ _ _ rfl (WQ.nilS ?_)))
    refine WR.ret ⟨rfl, rfl, ⟨_, rfl, VLe.refl _⟩, fun b _ => rfl⟩
  ·rw [if_neg hz] at hget ⊢
   refine WQ.callH rfl rfl rfl rfl rfl hget .base rfl (WQ.runS [] 1000 _ _ _ _ rfl (WQ.nilS ?_))
   refine WR.seq (WR.seq (WR.reg (WQ.runS [] 1000 _ _ _ _ rfl (WQ.nilS ?_))))
   rw [show (!decide (T.2.2 = 0)) = true from by simp [hz]]
   refine WR.condT rfl ?_
   refine WR.seq (WR.reg (WQ.runS [] 1000 _ _ _ _ rfl (WQ.nilS ?_)))
   refine WR.ret ⟨rfl, rfl, ⟨_, rfl, VLe.refl _⟩, fun b _ => rfl⟩
end Go.VM
end
section
/- The library's stable sort sorts: in plain words, no program in sight. -/
set_option maxRecDepth 100000
set_option linter.unusedVariables false
set_option linter.unusedSimpArgs false
namespace Go.VM
def Rk (K : Nat → Int) (x y : Nat) : Prop := K x > K y ∨ (K x = K y ∧ x < y)
theorem Rk.trans {K : Nat → Int} {x y z : Nat} (h : Rk K x y) (g : Rk K y z) : Rk K x z := by
 unfold Rk at *; omega
theorem Rk.asymm {K : Nat → Int} {x y : Nat} (h : Rk K x y) (g : Rk K y x) : False := by
 unfold Rk at *; omega
abbrev Srt (K : Nat → Int) (l : List Nat) : Prop := l.Pairwise (Rk K)
theorem srt_unique {K : Nat → Int} : ∀ {l1 l2 : List Nat}, Srt K l1 → Srt K l2 → l1.Perm l2 → l1 = l2
 | [], l2, _, _, p => (List.Perm.nil_eq p)
 | x :: l1, [], _, _, p => absurd p.length_eq (by simp)
 | x :: l1, y :: l2, h1, h2, p => by
  have hxy : x = y := by
   have hx : x ∈ y :: l2 := p.mem_iff.1 (by simp)
   have hy : y ∈ x :: l1 := p.mem_iff.2 (by simp)
   rcases List.mem_cons.1 hx with e | hx
   ·exact e
   ·rcases List.mem_cons.1 hy with e | hy
    ·exact e.symm
    ·exact (Rk.asymm ((List.pairwise_cons.1 h1).1 y hy) ((List.pairwise_cons.1 h2).1 x hx)).elim
  subst hxy
  rw [srt_unique (List.pairwise_cons.1 h1).2 (List.pairwise_cons.1 h2).2 (List.Perm.cons_inv p)]
theorem srt_app {K : Nat → Int} {P Q : List Nat} (h1 : Srt K P) (h2 : Srt K Q) (h : ∀ x ∈ P, ∀ y ∈ Q, Rk K x y) : Srt K (P ++ Q) := List.pairwise_append.2 ⟨h1, h2, h⟩
theorem get_at {A B : List Nat} {x n : Nat} (h : A.length = n) : (A ++ x :: B)[n]? = some x := by subst h; simp
theorem set_at {A B : List Nat} {x n : Nat} (y : Nat) (h : A.length = n) : (A ++ x :: B).set n y = A ++ y :: B := by subst h; simp
theorem up_ok : ∀ (Q : List Nat) (A B : List Nat) (y k : Nat), A.length = k → upF Q.length k (A ++ y :: (Q ++ B)) = A ++ Q ++ y :: B
 | [], A, B, y, k, h => by simp [upF]
 | q :: Q, A, B, y, k, h => by
  have e1 : (A ++ y :: (q :: Q ++ B))[k]? = some y := get_at h
  have e2 : (A ++ y :: (q :: Q ++ B))[k + 1]? = some q := by
   have := get_at (A := A ++ [y]) (B := Q ++ B) (x := q) (n := k + 1) (by simp [h])
   simpa using this
  have e3 : ((A ++ y :: (q :: Q ++ B)).set k q).set (k + 1) y = (A ++ [q]) ++ y :: (Q ++ B) := by
   rw [set_at q h]
   have := set_at (A := A ++ [q]) (B := Q ++ B) (x := q) (n := k + 1) y (by simp [h])
   simpa using this
  show (match (A ++ y :: (q :: Q ++ B))[k]?, (A ++ y :: (q :: Q ++ B))[k + 1]? with | some x, some y' => upF Q.length (k + 1) (((A ++ y :: (q :: Q ++ B)).set k y').set (k + 1) x) | _, _ => _) = _
  rw [e1, e2]
  show upF Q.length (k + 1) (((A ++ y :: (q :: Q ++ B)).set k q).set (k + 1) y) = _
  rw [e3, up_ok Q (A ++ [q]) B y (k + 1) (by simp [h])]
  simp
theorem dn_ok (n : Nat) : ∀ (P : List Nat), P.length = n → ∀ (A B : List Nat) (y k : Nat), A.length + n = k → dnF n k (A ++ (P ++ y :: B)) = A ++ y :: (P ++ B) := by
 induction n with
 | zero =>
  intro P h A B y k hk
  have : P = [] := List.eq_nil_of_length_eq_zero h
  subst this; simp [dnF]
 | succ n ih =>
  intro P h A B y k hk
  obtain ⟨P', p, rfl⟩ : ∃ P' p, P = P' ++ [p] := by
   rcases List.eq_nil_or_concat P with e | ⟨P', p, e⟩
   ·subst e; simp at h
   ·exact ⟨P', p, by simpa using e⟩
  have hl : P'.length = n := by simpa using h
  have eq0 : A ++ (P' ++ [p] ++ y :: B) = (A ++ P') ++ p :: (y :: B) := by simp
  have eq1 : (A ++ P') ++ p :: (y :: B) = (A ++ P' ++ [p]) ++ y :: B := by simp
  rw [eq0]
  have e1 : ((A ++ P') ++ p :: (y :: B))[k]? = some y := by rw [eq1]; exact get_at (by simp; omega)
  have e2 : ((A ++ P') ++ p :: (y :: B))[k - 1]? = some p := get_at (by simp; omega)
  have e3 : (((A ++ P') ++ p :: (y :: B)).set k p).set (k - 1) y = A ++ (P' ++ y :: (p :: B)) := by
   rw [eq1, set_at p (by simp; omega)]
   have : (A ++ P' ++ [p]) ++ p :: B = (A ++ P') ++ p :: (p :: B) := by simp
   rw [this, set_at y (by simp; omega)]
   simp
  show (match ((A ++ P') ++ p :: (y :: B))[k]?, ((A ++ P') ++ p :: (y :: B))[k - 1]? with | some x, some y' => dnF n (k - 1) ((((A ++ P') ++ p :: (y :: B)).set k y').set (k - 1) x) | _, _ => _) = _
  rw [e1, e2]
  show dnF n (k - 1) ((((A ++ P') ++ p :: (y :: B)).set k p).set (k - 1) y) = _
  rw [e3, ih P' hl A (p :: B) y (k - 1) (by omega)]
  simp
theorem sw_ok (a b : Nat) : ∀ (U V X Y Z : List Nat) (i : Nat), U.length = V.length → a + i = X.length → b + i = X.length + U.length + Y.length →
  swG a b U.length i (X ++ (U ++ (Y ++ (V ++ Z)))) = X ++ (V ++ (Y ++ (U ++ Z)))
 | [], V, X, Y, Z, i, h, _, _ => by
  have : V = [] := List.eq_nil_of_length_eq_zero h.symm
  subst this; simp [swG]
 | u :: U, [], X, Y, Z, i, h, _, _ => by simp at h
 | u :: U, v :: V, X, Y, Z, i, h, h1, h2 => by
  have h : U.length = V.length := by simpa using h
  have h2 : b + i = X.length + (U.length + 1) + Y.length := by simpa using h2
  have eq0 : X ++ (u :: U ++ (Y ++ (v :: V ++ Z))) = X ++ u :: (U ++ (Y ++ (v :: V ++ Z))) := by simp
  have e1 : (X ++ (u :: U ++ (Y ++ (v :: V ++ Z))))[a + i]? = some u := by rw [eq0]; exact get_at h1.symm
  have eq1 : X ++ (u :: U ++ (Y ++ (v :: V ++ Z))) = (X ++ (u :: U ++ Y)) ++ v :: (V ++ Z) := by simp
  have e2 : (X ++ (u :: U ++ (Y ++ (v :: V ++ Z))))[b + i]? = some v := by rw [eq1]; exact get_at (by simp; omega)
  have e3 : ((X ++ (u :: U ++ (Y ++ (v :: V ++ Z)))).set (a + i) v).set (b + i) u = (X ++ [v]) ++ (U ++ ((Y ++ [u]) ++ (V ++ Z))) := by
   rw [eq0, set_at v h1.symm]
   have : X ++ v :: (U ++ (Y ++ (v :: V ++ Z))) = (X ++ (v :: U ++ Y)) ++ v :: (V ++ Z) := by simp
   rw [this, set_at u (by simp; omega)]
   simp
  show (match (X ++ (u :: U ++ (Y ++ (v :: V ++ Z))))[a + i]?, (X ++ (u :: U ++ (Y ++ (v :: V ++ Z))))[b + i]? with | some x, some y => swG a b U.length (i + 1) (((X ++ (u :: U ++ (Y ++ (v :: V ++ Z)))).set (a + i) y).set (b + i) x) | _, _ => _) = _
  rw [e1, e2]
  show swG a b U.length (i + 1) (((X ++ (u :: U ++ (Y ++ (v :: V ++ Z)))).set (a + i) v).set (b + i) u) = _
  rw [e3, sw_ok a b U V (X ++ [v]) (Y ++ [u]) Z (i + 1) h (by simp; omega) (by simp; omega)]
  simp
theorem rot_ok (m : Nat) : ∀ (f : Nat) (W U V Z : List Nat), U.length + V.length ≤ f → 0 < U.length → 0 < V.length → W.length + U.length = m →
  swG (m - (rotL m f U.length V.length (W ++ (U ++ (V ++ Z)))).1) m (rotL m f U.length V.length (W ++ (U ++ (V ++ Z)))).1 0 (rotL m f U.length V.length (W ++ (U ++ (V ++ Z)))).2 = W ++ (V ++ (U ++ Z)) := by
 intro f
 induction f with
 | zero => intro W U V Z h h1; omega
 | succ f ih =>
  intro W U V Z hf hu hv hm
  by_cases he : U.length = V.length
  ·have hr : rotL m (f + 1) U.length V.length (W ++ (U ++ (V ++ Z))) = (U.length, W ++ (U ++ (V ++ Z))) := by simp only [rotL, if_pos he]
   rw [hr]
   have := sw_ok (m - U.length) m U V W [] Z 0 he (by omega) (by simp; omega)
   simpa using this
  ·by_cases hg : U.length > V.length
   ·have hr : rotL m (f + 1) U.length V.length (W ++ (U ++ (V ++ Z))) = rotL m f (U.length - V.length) V.length (swG (m - U.length) m V.length 0 (W ++ (U ++ (V ++ Z)))) := by simp only [rotL, if_neg he, if_pos hg]
    obtain ⟨U1, U2, rfl, hl⟩ : ∃ U1 U2, U = U1 ++ U2 ∧ U1.length = V.length := ⟨U.take V.length, U.drop V.length, (List.take_append_drop _ _).symm, by rw [List.length_take]; omega⟩
    have hs : swG (m - (U1 ++ U2).length) m V.length 0 (W ++ ((U1 ++ U2) ++ (V ++ Z))) = (W ++ V) ++ (U2 ++ (U1 ++ Z)) := by
     have := sw_ok (m - (U1 ++ U2).length) m U1 V W U2 Z 0 hl (by omega) (by simp at hm ⊢; omega)
     rw [hl] at this
     simpa using this
    rw [hr, hs]
    have e1 : (U1 ++ U2).length - V.length = U2.length := by simp; omega
    have e2 : V.length = U1.length := hl.symm
    rw [e1, e2, ih (W ++ V) U2 U1 Z (by simp at hf; omega) (by simp at hg; omega) (by omega) (by simp at hm ⊢; omega)]
    simp
   ·have hr : rotL m (f + 1) U.length V.length (W ++ (U ++ (V ++ Z))) = rotL m f U.length (V.length - U.length) (swG (m - U.length) (m + V.length - U.length) U.length 0 (W ++ (U ++ (V ++ Z)))) := by simp only [rotL, if_neg he, if_neg hg]
    obtain ⟨V1, V2, rfl, hl⟩ : ∃ V1 V2, V = V1 ++ V2 ∧ V2.length = U.length := ⟨V.take (V.length - U.length), V.drop (V.length - U.length), (List.take_append_drop _ _).symm, by rw [List.length_drop]; omega⟩
    have hs : swG (m - U.length) (m + (V1 ++ V2).length - U.length) U.length 0 (W ++ (U ++ ((V1 ++ V2) ++ Z))) = W ++ (V2 ++ (V1 ++ (U ++ Z))) := by
     have := sw_ok (m - U.length) (m + (V1 ++ V2).length - U.length) U V2 W V1 Z 0 hl.symm (by omega) (by simp; omega)
     simpa using this
    rw [hr, hs]
    have e1 : (V1 ++ V2).length - U.length = V1.length := by simp; omega
    have e2 : U.length = V2.length := hl.symm
    rw [e1, e2, ih W V2 V1 (U ++ Z) (by simp at hf; omega) (by omega) (by simp at hg he; omega) (by omega)]
    simp
theorem rotF_ok (A P Q B : List Nat) (a m b : Nat) (ha : A.length = a) (hm : a + P.length = m) (hb : m + Q.length = b) (h1 : 0 < P.length) (h2 : 0 < Q.length) : rotF a m b (A ++ (P ++ (Q ++ B))) = A ++ (Q ++ (P ++ B)) := by
 have := rot_ok m (b - a) A P Q B (by omega) h1 h2 (by omega)
 unfold rotF
 rw [show m - a = P.length by omega, show b - m = Q.length by omega]
 exact this
theorem bsF_ok (K : Nat → Int) (y : Nat) (xs : List Nat) : ∀ (f i j : Nat), i ≤ j → j ≤ xs.length → j - i < f →
  (bsF K y xs f i j = i ∨ ∃ x, xs[bsF K y xs f i j - 1]? = some x ∧ K y < K x) ∧ (bsF K y xs f i j = j ∨ ∃ x, xs[bsF K y xs f i j]? = some x ∧ ¬ K y < K x) := by
 intro f
 induction f with
 | zero => intro i j _ _ h; omega
 | succ f ih =>
  intro i j hij hj hf
  by_cases h : i < j
  ·obtain ⟨x, hx⟩ : ∃ x, xs[(i + j) / 2]? = some x := ⟨_, List.getElem?_eq_getElem (by omega)⟩
   by_cases hc : K y < K x
   ·rw [show bsF K y xs (f + 1) i j = bsF K y xs f ((i + j) / 2 + 1) j from by simp only [bsF, if_pos h, hx, if_pos hc]]
    obtain ⟨g1, g2⟩ := ih ((i + j) / 2 + 1) j (by omega) hj (by omega)
    refine ⟨.inr ?_, g2⟩
    rcases g1 with g1 | g1
    ·rw [g1]; exact ⟨x, by simpa using hx, hc⟩
    ·exact g1
   ·rw [show bsF K y xs (f + 1) i j = bsF K y xs f i ((i + j) / 2) from by simp only [bsF, if_pos h, hx, if_neg hc]]
    obtain ⟨g1, g2⟩ := ih i ((i + j) / 2) (by omega) (by omega) (by omega)
    refine ⟨g1, .inr ?_⟩
    rcases g2 with g2 | g2
    ·rw [g2]; exact ⟨x, hx, hc⟩
    ·exact g2
  ·rw [show bsF K y xs (f + 1) i j = i from by simp only [bsF, if_neg h]]
   exact ⟨.inl rfl, .inl (by omega)⟩
theorem bsG_ok (K : Nat → Int) (y : Nat) (xs : List Nat) : ∀ (f i j : Nat), i ≤ j → j ≤ xs.length → j - i < f →
  (bsG K y xs f i j = i ∨ ∃ x, xs[bsG K y xs f i j - 1]? = some x ∧ ¬ K x < K y) ∧ (bsG K y xs f i j = j ∨ ∃ x, xs[bsG K y xs f i j]? = some x ∧ K x < K y) := by
 intro f
 induction f with
 | zero => intro i j _ _ h; omega
 | succ f ih =>
  intro i j hij hj hf
  by_cases h : i < j
  ·obtain ⟨x, hx⟩ : ∃ x, xs[(i + j) / 2]? = some x := ⟨_, List.getElem?_eq_getElem (by omega)⟩
   by_cases hc : K x < K y
   ·rw [show bsG K y xs (f + 1) i j = bsG K y xs f i ((i + j) / 2) from by simp only [bsG, if_pos h, hx, if_pos hc]]
    obtain ⟨g1, g2⟩ := ih i ((i + j) / 2) (by omega) (by omega) (by omega)
    refine ⟨g1, .inr ?_⟩
    rcases g2 with g2 | g2
    ·rw [g2]; exact ⟨x, hx, hc⟩
    ·exact g2
   ·rw [show bsG K y xs (f + 1) i j = bsG K y xs f ((i + j) / 2 + 1) j from by simp only [bsG, if_pos h, hx, if_neg hc]]
    obtain ⟨g1, g2⟩ := ih ((i + j) / 2 + 1) j (by omega) hj (by omega)
    refine ⟨.inr ?_, g2⟩
    rcases g1 with g1 | g1
    ·rw [g1]; exact ⟨x, by simpa using hx, hc⟩
    ·exact g1
  ·rw [show bsG K y xs (f + 1) i j = i from by simp only [bsG, if_neg h]]
   exact ⟨.inl rfl, .inl (by omega)⟩
theorem bsH_ok (K : Nat → Int) (p : Nat) (xs : List Nat) : ∀ (f i j : Nat), i ≤ j → j ≤ xs.length → j - i < f → j ≤ p + 1 → p < xs.length + i →
  (bsH K p xs f i j = i ∨ ∃ x y, xs[bsH K p xs f i j - 1]? = some x ∧ xs[p - (bsH K p xs f i j - 1)]? = some y ∧ ¬ K x < K y) ∧ (bsH K p xs f i j = j ∨ ∃ x y, xs[bsH K p xs f i j]? = some x ∧ xs[p - bsH K p xs f i j]? = some y ∧ K x < K y) := by
 intro f
 induction f with
 | zero => intro i j _ _ h; omega
 | succ f ih =>
  intro i j hij hj hf hp1 hp2
  by_cases h : i < j
  ·obtain ⟨x, hx⟩ : ∃ x, xs[(i + j) / 2]? = some x := ⟨_, List.getElem?_eq_getElem (by omega)⟩
   obtain ⟨y, hy⟩ : ∃ y, xs[p - (i + j) / 2]? = some y := ⟨_, List.getElem?_eq_getElem (by omega)⟩
   by_cases hc : K x < K y
   ·rw [show bsH K p xs (f + 1) i j = bsH K p xs f i ((i + j) / 2) from by simp only [bsH, if_pos h, hx, hy, if_pos hc]]
    obtain ⟨g1, g2⟩ := ih i ((i + j) / 2) (by omega) (by omega) (by omega) (by omega) hp2
    refine ⟨g1, .inr ?_⟩
    rcases g2 with g2 | g2
    ·rw [g2]; exact ⟨x, y, hx, hy, hc⟩
    ·exact g2
   ·rw [show bsH K p xs (f + 1) i j = bsH K p xs f ((i + j) / 2 + 1) j from by simp only [bsH, if_pos h, hx, hy, if_neg hc]]
    obtain ⟨g1, g2⟩ := ih ((i + j) / 2 + 1) j (by omega) hj (by omega) hp1 (by omega)
    refine ⟨.inr ?_, g2⟩
    rcases g1 with g1 | g1
    ·rw [g1]; exact ⟨x, y, by simpa using hx, by simpa using hy, hc⟩
    ·exact g1
  ·rw [show bsH K p xs (f + 1) i j = i from by simp only [bsH, if_neg h]]
   exact ⟨.inl rfl, .inl (by omega)⟩
end Go.VM
end
section
/- The library's stable sort sorts: merging, the blocks, all. -/
set_option maxRecDepth 100000
set_option linter.unusedVariables false
set_option linter.unusedSimpArgs false
namespace Go.VM
theorem head_ahead {K : Nat → Int} {x z : Nat} {P1 P2 : List Nat} (h : Srt K (P1 ++ x :: P2)) (hz : Rk K x z) : ∀ p ∈ P1 ++ [x], Rk K p z := by
 intro p hp
 rcases List.mem_append.1 hp with hp | hp
 ·exact ((List.pairwise_append.1 h).2.2 p hp x (by simp)).trans hz
 ·simp at hp; subst hp; exact hz
theorem tail_behind {K : Nat → Int} {x z : Nat} {P1 P2 : List Nat} (h : Srt K (P1 ++ x :: P2)) (hz : Rk K z x) : ∀ p ∈ x :: P2, Rk K z p := by
 intro p hp
 rcases List.mem_cons.1 hp with rfl | hp
 ·exact hz
 ·exact hz.trans ((List.pairwise_cons.1 (List.pairwise_append.1 h).2.1).1 p hp)
theorem take_ahead {K : Nat → Int} {z c : Nat} {P : List Nat} (h : Srt K P) (hc : c = 0 ∨ ∃ x, P[c - 1]? = some x ∧ Rk K x z) : ∀ p ∈ P.take c, Rk K p z := by
 rcases hc with rfl | ⟨x, hx, hz⟩
 ·intro p hp; simp at hp
 ·rcases Nat.eq_zero_or_pos c with h0 | h0
  ·subst h0; intro p hp; simp at hp
  ·have hlt := (List.getElem?_eq_some_iff.1 hx).1
   have e : P.take c = P.take (c - 1) ++ [x] := by
    have := List.take_add_one (l := P) (i := c - 1)
    rw [show c - 1 + 1 = c by omega, hx] at this
    simpa using this
   have e2 : P = P.take (c - 1) ++ x :: P.drop c := by
    conv => lhs; rw [← List.take_append_drop c P, e]
    simp
   rw [e]
   rw [e2] at h
   exact head_ahead h hz
theorem drop_behind {K : Nat → Int} {z c : Nat} {P : List Nat} (h : Srt K P) (hc : P.length ≤ c ∨ ∃ x, P[c]? = some x ∧ Rk K z x) : ∀ p ∈ P.drop c, Rk K z p := by
 rcases hc with hc | ⟨x, hx, hz⟩
 ·intro p hp; rw [List.drop_eq_nil_iff.2 hc] at hp; cases hp
 ·have hlt := (List.getElem?_eq_some_iff.1 hx).1
  have e : P.drop c = x :: P.drop (c + 1) := by
   rw [List.drop_eq_getElem_cons hlt]
   congr 1
   rw [List.getElem?_eq_getElem hlt] at hx; exact Option.some.inj hx
  have e2 : P = P.take c ++ x :: P.drop (c + 1) := by
   conv => lhs; rw [← List.take_append_drop c P, e]
  rw [e]
  rw [e2] at h
  exact tail_behind h hz
theorem get_mid {A P B : List Nat} {i a : Nat} (ha : A.length = a) (h1 : a ≤ i) (h2 : i < a + P.length) : (A ++ (P ++ B))[i]? = P[i - a]? := by
 rw [List.getElem?_append_right (by omega), List.getElem?_append_left (by omega), ha]
theorem srt_take {K : Nat → Int} {P : List Nat} (h : Srt K P) (c : Nat) : Srt K (P.take c) := h.sublist (List.take_sublist _ _)
theorem srt_drop {K : Nat → Int} {P : List Nat} (h : Srt K P) (c : Nat) : Srt K (P.drop c) := h.sublist (List.drop_sublist _ _)
theorem symF_ok (K : Nat → Int) : ∀ (f : Nat) (A P Q B : List Nat) (a m b : Nat), A.length = a → a + P.length = m → m + Q.length = b → P.length + Q.length ≤ f → 0 < P.length → 0 < Q.length → Srt K P → Srt K Q → (∀ x ∈ P, ∀ y ∈ Q, x < y) →
  ∃ M, symF K f a m b (A ++ (P ++ (Q ++ B))) = A ++ (M ++ B) ∧ M.Perm (P ++ Q) ∧ Srt K M := by
 intro f
 induction f with
 | zero => intro A P Q B a m b _ _ _ h h1; omega
 | succ f ih =>
  intro A P Q B a m b ha hm hb hf hp hq sp sq hlt
  obtain ⟨xs, hxs⟩ : ∃ xs, xs = A ++ (P ++ (Q ++ B)) := ⟨_, rfl⟩
  have hlen : xs.length = b + B.length := by rw [hxs]; simp; omega
  have gP : ∀ i, a ≤ i → i < m → xs[i]? = P[i - a]? := fun i h1 h2 => by rw [hxs]; exact get_mid ha h1 (by omega)
  have gQ : ∀ i, m ≤ i → i < b → xs[i]? = Q[i - m]? := fun i h1 h2 => by
   rw [hxs, ← List.append_assoc]; exact get_mid (by simp; omega) h1 (by omega)
  rw [← hxs]
  by_cases q1 : m - a = 1
  ·obtain ⟨y, rfl⟩ : ∃ y, P = [y] := by
    match P, hp, hm with
    | [y], _, _ => exact ⟨y, rfl⟩
    | _ :: _ :: _, _, hm => simp at hm; omega
   have hm : a + 1 = m := by simpa using hm
   have hy : xs[a]? = some y := by rw [gP a (Nat.le_refl _) (by omega)]; simp
   have rng := bsF_rng K y xs (b - m + 1) m b (by omega)
   have ok := bsF_ok K y xs (b - m + 1) m b (by omega) (by omega) (by omega)
   rw [show symF K (f + 1) a m b xs = upF (bsF K y xs (b - m + 1) m b - 1 - a) a xs from by simp only [symF, if_pos q1, hy]]
   generalize bsF K y xs (b - m + 1) m b = i at *
   have hyq : ∀ x ∈ Q, y < x := fun x hx => hlt y (by simp) x hx
   have h1 : ∀ x ∈ Q.take (i - m), Rk K x y := take_ahead sq (by
    rcases ok.1 with e | ⟨x, hx, hk⟩
    ·exact .inl (by omega)
    ·rcases Nat.lt_or_ge m i with g | g
     ·refine .inr ⟨x, ?_, .inl hk⟩
      rw [gQ (i - 1) (by omega) (by omega)] at hx
      rw [← hx]; congr 1; omega
     ·exact .inl (by omega))
   have h2 : ∀ x ∈ Q.drop (i - m), Rk K y x := drop_behind sq (by
    rcases ok.2 with e | ⟨x, hx, hk⟩
    ·exact .inl (by omega)
    ·rcases Nat.lt_or_ge i b with g | g
     ·rw [gQ i (by omega) g] at hx
      have := hyq x (List.mem_of_getElem? hx)
      exact .inr ⟨x, hx, by unfold Rk; omega⟩
     ·exact .inl (by omega))
   refine ⟨Q.take (i - m) ++ y :: Q.drop (i - m), ?_, ?_, ?_⟩
   ·have hl : (Q.take (i - m)).length = i - 1 - a := by rw [List.length_take]; omega
    have := up_ok (Q.take (i - m)) A (Q.drop (i - m) ++ B) y a ha
    rw [hl] at this
    rw [hxs]
    have e : A ++ ([y] ++ (Q ++ B)) = A ++ y :: (Q.take (i - m) ++ (Q.drop (i - m) ++ B)) := by
     rw [← List.append_assoc (Q.take (i - m)), List.take_append_drop]; rfl
    rw [e, this]; simp
   ·have : (Q.take (i - m) ++ y :: Q.drop (i - m)).Perm (y :: (Q.take (i - m) ++ Q.drop (i - m))) := List.perm_middle
    rw [List.take_append_drop] at this
    exact this
   ·refine srt_app (srt_take sq _) (List.pairwise_cons.2 ⟨h2, srt_drop sq _⟩) (fun x hx z hz => ?_)
    rcases List.mem_cons.1 hz with rfl | hz
    ·exact h1 x hx
    ·exact (h1 x hx).trans (h2 z hz)
  by_cases q2 : b - m = 1
  ·obtain ⟨y, rfl⟩ : ∃ y, Q = [y] := by
    match Q, hq, hb with
    | [y], _, _ => exact ⟨y, rfl⟩
    | _ :: _ :: _, _, hb => simp at hb; omega
   have hb : m + 1 = b := by simpa using hb
   have hy : xs[m]? = some y := by rw [gQ m (Nat.le_refl _) (by omega)]; simp
   have rng := bsG_rng K y xs (m - a + 1) a m (by omega)
   have ok := bsG_ok K y xs (m - a + 1) a m (by omega) (by omega) (by omega)
   rw [show symF K (f + 1) a m b xs = dnF (m - bsG K y xs (m - a + 1) a m) m xs from by simp only [symF, if_neg q1, if_pos q2, hy]]
   generalize bsG K y xs (m - a + 1) a m = i at *
   have hyq : ∀ x ∈ P, x < y := fun x hx => hlt x hx y (by simp)
   have h1 : ∀ x ∈ P.take (i - a), Rk K x y := take_ahead sp (by
    rcases ok.1 with e | ⟨x, hx, hk⟩
    ·exact .inl (by omega)
    ·rcases Nat.lt_or_ge a i with g | g
     ·rw [gP (i - 1) (by omega) (by omega)] at hx
      have hx' : P[i - a - 1]? = some x := by rw [← hx]; congr 1; omega
      have := hyq x (List.mem_of_getElem? hx)
      exact .inr ⟨x, hx', by unfold Rk; omega⟩
     ·exact .inl (by omega))
   have h2 : ∀ x ∈ P.drop (i - a), Rk K y x := drop_behind sp (by
    rcases ok.2 with e | ⟨x, hx, hk⟩
    ·exact .inl (by omega)
    ·rcases Nat.lt_or_ge i m with g | g
     ·rw [gP i (by omega) g] at hx
      exact .inr ⟨x, hx, .inl hk⟩
     ·exact .inl (by omega))
   refine ⟨P.take (i - a) ++ y :: P.drop (i - a), ?_, ?_, ?_⟩
   ·have hl : (P.drop (i - a)).length = m - i := by rw [List.length_drop]; omega
    have := dn_ok (m - i) (P.drop (i - a)) hl (A ++ P.take (i - a)) B y m (by simp; omega)
    rw [hxs]
    have e : A ++ (P ++ ([y] ++ B)) = (A ++ P.take (i - a)) ++ (P.drop (i - a) ++ y :: B) := by
     rw [List.append_assoc, ← List.append_assoc (P.take (i - a)), List.take_append_drop]; rfl
    rw [e, this]; simp
   ·have : (P.take (i - a) ++ y :: P.drop (i - a)).Perm (y :: (P.take (i - a) ++ P.drop (i - a))) := List.perm_middle
    rw [List.take_append_drop] at this
    exact this.trans (List.perm_append_comm (l₁ := [y]) (l₂ := P))
   ·refine srt_app (srt_take sp _) (List.pairwise_cons.2 ⟨h2, srt_drop sp _⟩) (fun x hx z hz => ?_)
    rcases List.mem_cons.1 hz with rfl | hz
    ·exact h1 x hx
    ·exact (h1 x hx).trans (h2 z hz)
  obtain ⟨mid, hmid⟩ : ∃ mid, mid = (a + b) / 2 := ⟨_, rfl⟩
  have rng := cutF_rng K a m b xs (by omega) (by omega)
  rw [← hmid] at rng
  have hcut : (∀ x y, a < cutF K a m b xs → mid + m - cutF K a m b xs < b → xs[cutF K a m b xs - 1]? = some x → xs[mid + m - cutF K a m b xs]? = some y → ¬ K x < K y) ∧
    (∀ x y, cutF K a m b xs < m → m < mid + m - cutF K a m b xs → xs[cutF K a m b xs]? = some x → xs[mid + m - cutF K a m b xs - 1]? = some y → K x < K y) := by
   by_cases hc : m > mid
   ·have e : cutF K a m b xs = bsH K (mid + m - 1) xs (b - a + 1) (mid + m - b) mid := by unfold cutF; simp only [← hmid, if_pos hc]
    have ok := bsH_ok K (mid + m - 1) xs (b - a + 1) (mid + m - b) mid (by omega) (by omega) (by omega) (by omega) (by omega)
    rw [← e] at ok
    generalize cutF K a m b xs = s at *
    refine ⟨fun x y h1 h2 hx hy => ?_, fun x y h1 h2 hx hy => ?_⟩
    ·rcases ok.1 with g | ⟨x', y', g1, g2, g3⟩
     ·omega
     ·rw [hx] at g1; cases g1
      rw [show mid + m - 1 - (s - 1) = mid + m - s by omega, hy] at g2; cases g2
      exact g3
    ·rcases ok.2 with g | ⟨x', y', g1, g2, g3⟩
     ·omega
     ·rw [hx] at g1; cases g1
      rw [show mid + m - 1 - s = mid + m - s - 1 by omega, hy] at g2; cases g2
      exact g3
   ·have e : cutF K a m b xs = bsH K (mid + m - 1) xs (b - a + 1) a m := by unfold cutF; simp only [← hmid, if_neg hc]
    have ok := bsH_ok K (mid + m - 1) xs (b - a + 1) a m (by omega) (by omega) (by omega) (by omega) (by omega)
    rw [← e] at ok
    generalize cutF K a m b xs = s at *
    refine ⟨fun x y h1 h2 hx hy => ?_, fun x y h1 h2 hx hy => ?_⟩
    ·rcases ok.1 with g | ⟨x', y', g1, g2, g3⟩
     ·omega
     ·rw [hx] at g1; cases g1
      rw [show mid + m - 1 - (s - 1) = mid + m - s by omega, hy] at g2; cases g2
      exact g3
    ·rcases ok.2 with g | ⟨x', y', g1, g2, g3⟩
     ·omega
     ·rw [hx] at g1; cases g1
      rw [show mid + m - 1 - s = mid + m - s - 1 by omega, hy] at g2; cases g2
      exact g3
  have hst := symF_step K f a m b xs mid (cutF K a m b xs) (mid + m - cutF K a m b xs) _ _ q1 q2 hmid rfl rfl rfl rfl
  rw [hst]
  generalize hs : cutF K a m b xs = s at *
  obtain ⟨e, he⟩ : ∃ e, e = mid + m - s := ⟨_, rfl⟩
  rw [← he] at hcut ⊢
  obtain ⟨P1, P2, rfl, hP1⟩ : ∃ P1 P2, P = P1 ++ P2 ∧ P1.length = s - a := ⟨P.take (s - a), P.drop (s - a), (List.take_append_drop _ _).symm, by rw [List.length_take]; omega⟩
  obtain ⟨Q1, Q2, rfl, hQ1⟩ : ∃ Q1 Q2, Q = Q1 ++ Q2 ∧ Q1.length = e - m := ⟨Q.take (e - m), Q.drop (e - m), (List.take_append_drop _ _).symm, by rw [List.length_take]; omega⟩
  have sP1 := (List.pairwise_append.1 sp).1
  have sP2 := (List.pairwise_append.1 sp).2.1
  have sP := (List.pairwise_append.1 sp).2.2
  have sQ1 := (List.pairwise_append.1 sq).1
  have sQ2 := (List.pairwise_append.1 sq).2.1
  have sQ := (List.pairwise_append.1 sq).2.2
  simp only [List.length_append] at hm hb hf hp hq
  have c1 : ∀ x ∈ P1, ∀ y ∈ Q2, Rk K x y := by
   intro x hx y hy
   have hp1 : 0 < P1.length := List.length_pos_of_mem hx
   have hq2 : 0 < Q2.length := List.length_pos_of_mem hy
   obtain ⟨x0, hx0⟩ : ∃ x0, xs[s - 1]? = some x0 := ⟨_, List.getElem?_eq_getElem (by omega)⟩
   obtain ⟨y0, hy0⟩ : ∃ y0, xs[e]? = some y0 := ⟨_, List.getElem?_eq_getElem (by omega)⟩
   have hk := hcut.1 x0 y0 (by omega) (by omega) hx0 hy0
   rw [gP (s - 1) (by omega) (by omega)] at hx0
   rw [gQ e (by omega) (by omega)] at hy0
   have hx1 : (P1 ++ P2)[(s - a) - 1]? = some x0 := by rw [← hx0]; congr 1; omega
   have hr : Rk K x0 y0 := by
    have := hlt x0 (List.mem_of_getElem? hx0) y0 (List.mem_of_getElem? hy0)
    unfold Rk; omega
   have t1 := take_ahead sp (.inr ⟨x0, hx1, hr⟩ : s - a = 0 ∨ _) x (by rw [List.take_append_of_le_length (by omega), List.take_of_length_le (by omega)]; exact hx)
   exact drop_behind sq (.inr ⟨y0, hy0, t1⟩) y (by rw [List.drop_append, List.drop_eq_nil_iff.2 (by omega), show e - m - Q1.length = 0 by omega]; simpa using hy)
  have c2 : ∀ x ∈ P2, ∀ y ∈ Q1, Rk K y x := by
   intro x hx y hy
   have hp2 : 0 < P2.length := List.length_pos_of_mem hx
   have hq1 : 0 < Q1.length := List.length_pos_of_mem hy
   obtain ⟨x0, hx0⟩ : ∃ x0, xs[s]? = some x0 := ⟨_, List.getElem?_eq_getElem (by omega)⟩
   obtain ⟨y0, hy0⟩ : ∃ y0, xs[e - 1]? = some y0 := ⟨_, List.getElem?_eq_getElem (by omega)⟩
   have hk := hcut.2 x0 y0 (by omega) (by omega) hx0 hy0
   rw [gP s (by omega) (by omega)] at hx0
   rw [gQ (e - 1) (by omega) (by omega)] at hy0
   have hy1 : (Q1 ++ Q2)[(e - m) - 1]? = some y0 := by rw [← hy0]; congr 1; omega
   have t1 := take_ahead sq (.inr ⟨y0, hy1, (.inl hk : Rk K y0 x0)⟩ : e - m = 0 ∨ _) y (by rw [List.take_append_of_le_length (by omega), List.take_of_length_le (by omega)]; exact hy)
   exact drop_behind sp (.inr ⟨x0, hx0, t1⟩) x (by rw [List.drop_append, List.drop_eq_nil_iff.2 (by omega), show s - a - P1.length = 0 by omega]; simpa using hx)
  obtain ⟨x1, hx1⟩ : ∃ x1, x1 = (if s < m ∧ m < e then rotF s m e xs else xs) := ⟨_, rfl⟩
  rw [← hx1]
  have hrot : x1 = A ++ (P1 ++ (Q1 ++ (P2 ++ (Q2 ++ B)))) := by
   rw [hx1]
   split
   ·have := rotF_ok (A ++ P1) P2 Q1 (Q2 ++ B) s m e (by simp; omega) (by omega) (by omega) (by omega) (by omega)
    rw [hxs]
    have e0 : A ++ ((P1 ++ P2) ++ ((Q1 ++ Q2) ++ B)) = (A ++ P1) ++ (P2 ++ (Q1 ++ (Q2 ++ B))) := by simp
    rw [e0, this]; simp
   ·rename_i hn
    have : P2 = [] ∨ Q1 = [] := by
     by_cases h0 : s < m
     ·exact .inr (List.eq_nil_of_length_eq_zero (by omega))
     ·exact .inl (List.eq_nil_of_length_eq_zero (by omega))
    rw [hxs]
    rcases this with rfl | rfl <;> simp
  obtain ⟨x2, hx2⟩ : ∃ x2, x2 = (if a < s ∧ s < mid then symF K f a s mid x1 else x1) := ⟨_, rfl⟩
  rw [← hx2]
  obtain ⟨M1, hm1, pm1, sm1⟩ : ∃ M1, x2 = A ++ (M1 ++ (P2 ++ (Q2 ++ B))) ∧ M1.Perm (P1 ++ Q1) ∧ Srt K M1 := by
   rw [hx2, hrot]
   split
   ·exact ih A P1 Q1 (P2 ++ (Q2 ++ B)) a s mid ha (by omega) (by omega) (by omega) (by omega) (by omega) sP1 sQ1 (fun x hx y hy => hlt x (by simp [hx]) y (by simp [hy]))
   ·rename_i hn
    refine ⟨P1 ++ Q1, by simp, List.Perm.refl _, ?_⟩
    have : P1 = [] ∨ Q1 = [] := by
     by_cases h0 : a < s
     ·exact .inr (List.eq_nil_of_length_eq_zero (by omega))
     ·exact .inl (List.eq_nil_of_length_eq_zero (by omega))
    rcases this with rfl | rfl
    ·simpa using sQ1
    ·simpa using sP1
  have hM1 : M1.length = mid - a := by rw [pm1.length_eq, List.length_append]; omega
  obtain ⟨M2, hm2, pm2, sm2⟩ : ∃ M2, (if mid < e ∧ e < b then symF K f mid e b x2 else x2) = (A ++ M1) ++ (M2 ++ B) ∧ M2.Perm (P2 ++ Q2) ∧ Srt K M2 := by
   have e0 : x2 = (A ++ M1) ++ (P2 ++ (Q2 ++ B)) := by rw [hm1]; simp
   rw [e0]
   split
   ·exact ih (A ++ M1) P2 Q2 B mid e b (by simp; omega) (by omega) (by omega) (by omega) (by omega) (by omega) sP2 sQ2 (fun x hx y hy => hlt x (by simp [hx]) y (by simp [hy]))
   ·rename_i hn
    refine ⟨P2 ++ Q2, by simp, List.Perm.refl _, ?_⟩
    have : P2 = [] ∨ Q2 = [] := by
     by_cases h0 : mid < e
     ·exact .inr (List.eq_nil_of_length_eq_zero (by omega))
     ·exact .inl (List.eq_nil_of_length_eq_zero (by omega))
    rcases this with rfl | rfl
    ·simpa using sQ2
    ·simpa using sP2
  rw [hm2]
  refine ⟨M1 ++ M2, by simp, ?_, ?_⟩
  ·refine (pm1.append pm2).trans ?_
   have : ((P1 ++ Q1) ++ (P2 ++ Q2)).Perm ((P1 ++ P2) ++ (Q1 ++ Q2)) := by
    rw [List.append_assoc, List.append_assoc]
    refine List.Perm.append_left P1 ?_
    rw [← List.append_assoc, ← List.append_assoc]
    exact List.Perm.append_right Q2 List.perm_append_comm
   exact this
  ·refine srt_app sm1 sm2 (fun x hx y hy => ?_)
   have hx := pm1.mem_iff.1 hx
   have hy := pm2.mem_iff.1 hy
   rcases List.mem_append.1 hx with hx | hx <;> rcases List.mem_append.1 hy with hy | hy
   ·exact sP x hx y hy
   ·exact c1 x hx y hy
   ·exact c2 y hy x hx
   ·exact sQ x hx y hy
end Go.VM
end
