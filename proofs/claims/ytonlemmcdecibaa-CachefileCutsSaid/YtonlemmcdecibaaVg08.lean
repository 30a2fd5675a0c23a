/- laid for this seat: VrKept2 VrRunP VcMem VcMarks -/
import Derived.Test.YtonlemmcdecibaaVg07
import Derived.Test.YtonlemmcdecibaaVg02
import Derived.Test.YtonlemmcdecibaaVg03
section
/- What the program keeps: the latest of each key, as far as there is room. -/
set_option maxRecDepth 100000
set_option linter.unusedVariables false
set_option linter.unusedSimpArgs false
namespace Go.VM
open Go.RowKit
def kcell (x : Nat) : List V := [.int .i64 (x : Int)]
theorem ints_flat (xs : List Nat) : ints xs = (xs.map kcell).flatten := by
 induction xs with
 | nil => rfl
 | cons x xs ih => show _ :: ints xs = _; rw [ih]; rfl
def kseen (ks : List (List Nat)) : List (V × V) := ks.map fun k => (.str k, .bool true)
theorem findV_seen (k : List Nat) : ∀ ks, findV (.str k) (kseen ks) = some (if k ∈ ks then some (.bool true) else none)
 | [] => rfl
 | q :: ks => by
  show (match keyEq (.str k) (.str q) with | some true => some (some (V.bool true)) | some false => findV (.str k) (kseen ks) | none => none) = _
  have : keyEq (.str k) (.str q) = some (decide (k = q)) := rfl
  rw [this]
  by_cases h : k = q
  ·subst h; simp
  ·rw [decide_eq_false h]
   simp only
   rw [findV_seen k ks]
   simp [h]
theorem updV_seen (k : List Nat) : ∀ ks, k ∉ ks → updV (.str k) (.bool true) (kseen ks) = some (kseen (ks ++ [k]))
 | [], _ => rfl
 | q :: ks, h => by
  show (match keyEq (.str k) (.str q) with | some true => some ((V.str k, V.bool true) :: kseen ks) | some false => (updV (.str k) (.bool true) (kseen ks)).map ((V.str q, V.bool true) :: ·) | none => none) = _
  have : keyEq (.str k) (.str q) = some (decide (k = q)) := rfl
  rw [this, decide_eq_false (fun e => h (by simp [e]))]
  simp only
  rw [updV_seen k ks (fun e => h (by simp [e]))]
  rfl
def kpre (L : List EZ) (M : Nat) (ks : List (List Nat)) : OL := [(1000, .cells true (flatZ L)), (1001, .cells false [.sl 1000 0 L.length (.op 4)]), (M, .map (kseen ks))]
theorem kpre_lt {L : List EZ} {M : Nat} {ks : List (List Nat)} (h : 1002 ≤ M) : keysLt (kpre L M ks) (M + 1) := by
 intro e he
 simp only [kpre, List.mem_cons, List.mem_singleton, List.not_mem_nil, or_false] at he
 rcases he with rfl | rfl | rfl
 ·simp only; omega
 ·simp only; omega
 ·simp only; omega
def outK (M : Nat) : List Nat → V
 | [] => .lst [] (.ex 0)
 | x :: l => .lst ((x :: l).map kcell) (.tk (M + 1))
def tokK (M : Nat) : List Nat → OL
 | [] => []
 | _ :: l => [(M + 1, .tok (l.length + 1))]
def nxK (M : Nat) : List Nat → Nat
 | [] => M + 1
 | _ :: _ => M + 2
theorem beqF {a b : Nat} (h : a ≠ b) : Nat.beq a b = false := by
 cases hb : Nat.beq a b with
 | false => rfl
 | true => exact absurd (Nat.eq_of_beq_eq_true hb) h
theorem kmap_set {L : List EZ} {M : Nat} {ks : List (List Nat)} (h : 1002 ≤ M) (ks' : List (List Nat)) (tl : OL) : osetO (kpre L M ks ++ tl) M (.map (kseen ks')) = some (kpre L M ks' ++ tl) := by
 simp only [kpre, List.cons_append, List.nil_append, osetO, beqF (show 1000 ≠ M by omega), beqF (show 1001 ≠ M by omega), Nat.beq_refl]
theorem kmap_at {L : List EZ} {M : Nat} {ks : List (List Nat)} (h : 1002 ≤ M) (tl : OL) : og (kpre L M ks ++ tl) M = some (.map (kseen ks)) := by
 simp only [kpre, List.cons_append, og_cons]
 rw [if_neg (by omega), if_neg (by omega), if_pos trivial]
theorem outK_app {nt : Nat} {tm : TM} {x y : RX} {z : List V} {c : LC} {lc : LM} (L : List EZ) (M : Nat) (hM : 1002 ≤ M) (ks : List (List Nat)) (out : List Nat) (e : Nat) (hl : out.length ≤ 100000) (hx : rv [] tm x = some (outK M out)) (hy : rv [] tm y = some (.lst [[.int .i64 (e : Int)]] c)) :
  DoesR Go.Proofs.Try.prog [] nt tm ⟨nxK M out, og (kpre L M ks ++ tokK M out), lc⟩ (some (.app x y 1 8 z)) (.v (outK M (out ++ [e]))) ⟨nxK M (out ++ [e]), og (kpre L M ks ++ tokK M (out ++ [e])), lc⟩ := by
 have hk := kpre_lt (L := L) (ks := ks) hM
 cases out with
 | nil =>
  refine app_exR (es := []) (es2 := [kcell e]) (fs := [[.int .i64 (e : Int)]]) (fs2 := [[.int .i64 (e : Int)]]) (k := 0) (n2 := 1) hx hy (by simp) (by simp) (by simp) (by simp [lim]) rfl rfl rfl ?_
  have hh : osetO (kpre L M ks ++ tokK M []) (nxK M []) (.tok 1) = some (kpre L M ks ++ [(M + 1, .tok 1)]) := by
   simp only [kpre, tokK, nxK, List.cons_append, List.nil_append, osetO, beqF (show 1000 ≠ M + 1 by omega), beqF (show 1001 ≠ M + 1 by omega), beqF (show M ≠ M + 1 by omega)]
  exact hh
 | cons x l =>
  refine app_tkR (id := M + 1) (n := l.length + 1) (es := (x :: l).map kcell) (fs := [[.int .i64 (e : Int)]]) (fs2 := [[.int .i64 (e : Int)]]) (es2 := (x :: (l ++ [e])).map kcell) (n2 := (l ++ [e]).length + 1) hx hy (rowAt _ hk) (by simp) (by intro e he; obtain ⟨q, _, rfl⟩ := List.mem_map.1 he; rfl) (by simp) (by simp [lim] at hl ⊢; omega) rfl (by simp [kcell]) (by simp) (rowSet _ _ hk)
theorem muR {gl : List Nat} {nt : Nat} {tm : TM} {nx r : Nat} {ol ol' : OL} {lc : LM} {m k x : RX} {d : ED} {kv v : V} {es es' : List (V × V)} (hm : rv gl tm m = some (.map r)) (hk : rv gl tm k = some kv) (hx : rv gl tm x = some v) (hf : keyFits d kv = true) (hr : og ol r = some (.map es)) (hu : updV kv v es = some es') (ho : osetO ol r (.map es') = some ol') :
  DoesR Go.Proofs.Try.prog gl nt tm ⟨nx, og ol, lc⟩ (some (.mu m k x d)) (.v undefV) ⟨nx, og ol', lc⟩ := by
 intro o hro
 refine ⟨?_, del_nd hro rfl⟩
 have e : rac gl tm ⟨nx, og ol, lc⟩ (.mu m k x d) = some ((⟨nx, og ol, lc⟩ : H).put r (.map es')) := by
  simp only [rac, hm, hk, hx, hf, hr, hu, Option.map_some]
 have := rac_does (P := Go.Proofs.Try.prog) (nt := nt) hro e
 rw [osetO_eq ho, ← og_put]
 exact this
theorem lkR {gl : List Nat} {nt : Nat} {tm : TM} {nx r : Nat} {ol : OL} {lc : LM} {m k : RX} {z v : V} {d : ED} {kv : V} {es : List (V × V)} (hm : rv gl tm m = some (.map r)) (hk : rv gl tm k = some kv) (hf : keyFits d kv = true) (hr : og ol r = some (.map es)) (hu : findV kv es = some (some v)) :
  LightR Go.Proofs.Try.prog gl nt tm ⟨nx, og ol, lc⟩ (some (.lk m k false z d)) (.v v) := by
 refine lightX_sound ?_
 simp only [lightX, rl, hm, hk, hf, hr, hu]
 rfl
theorem lkN {gl : List Nat} {nt : Nat} {tm : TM} {nx r : Nat} {ol : OL} {lc : LM} {m k : RX} {z : V} {d : ED} {kv : V} {es : List (V × V)} (hm : rv gl tm m = some (.map r)) (hk : rv gl tm k = some kv) (hf : keyFits d kv = true) (hr : og ol r = some (.map es)) (hu : findV kv es = some none) :
  LightR Go.Proofs.Try.prog gl nt tm ⟨nx, og ol, lc⟩ (some (.lk m k false z d)) (.v z) := by
 refine lightX_sound ?_
 simp only [lightX, rl, hm, hk, hf, hr, hu]
 rfl
theorem mmR {gl : List Nat} {nt : Nat} {tm : TM} {nx : Nat} {p : OL} {lc : LM} (hp : keysLt p nx) :
  DoesR Go.Proofs.Try.prog gl nt tm ⟨nx, og (p ++ []), lc⟩ (some (.mm none)) (.v (.map nx)) ⟨nx + 1, og (p ++ [(nx, .map [])]), lc⟩ := by
 have := obj_doesR (P := Go.Proofs.Try.prog) (gl := gl) (nt := nt) (tm := tm) (h := ⟨nx, og (p ++ []), lc⟩) (ro := .mm none) (v := .map nx) (ob := .map []) (rah_objR rfl) rfl
 rw [rowNew _ hp] at this
 exact this
theorem lenK {nt : Nat} {tm : TM} {h : H} {x : RX} {M : Nat} {l : List Nat} (hx : rv [] tm x = some (outK M l)) : LightR Go.Proofs.Try.prog [] nt tm h (some (.lenL x)) (.v (.int .i64 l.length)) := by
 refine lightX_sound ?_
 cases l with
 | nil => simp only [lightX, rl, hx]; rfl
 | cons e l =>
  simp only [lightX, rl, hx, outK]
  simp
def keptG (L : List EZ) (most : Int) : List Nat → List (List Nat) → Int → List Nat → List Nat
 | [], _, _, out => out
 | i :: ys, ks, b, out => match L[i]? with
  | none => out
  | some e => if e.k ∈ ks then keptG L most ys ks b out
   else if (out.length : Int) ≥ most ∨ (sizeZ e : Int) > b then out
   else keptG L most ys (ks ++ [e.k]) (b - sizeZ e) (out ++ [i])
def l2Tm (most bytes : Int) (ys : List Nat) (M : Nat) (out : List Nat) (j : Nat) : TM := [(1, .v (.int .i64 most)), (2, .v (.int .i64 bytes)), (3, .v (.ptr 1001 0)), (6, .v (outK M out)), (10, .v (.map M)), (31, .v (.lst (ys.map kcell) .unk)), (32, .v (.int .i64 ys.length)), (33, .v (.int .i64 j))]
theorem kept_loop {QN : S → Prop} {QX : X → S → Prop} (L : List EZ) (most : Int) (hsz : ∀ e ∈ L, sizeZ e ≤ 1000000000) (ys : List Nat) (hy : ∀ x ∈ ys, x < L.length) (hyl : ys.length ≤ 100000) (M : Nat) (hM : 1002 ≤ M) : ∀ (m j : Nat) (ks : List (List Nat)) (bytes : Int) (out : List Nat), j + m = ys.length → out.length ≤ j → -9223372036854775808 ≤ bytes → bytes < 9223372036854775808 →
  (∀ tm ks' out', out' = keptG L most (ys.drop j) ks bytes out → tg tm 6 = some (.v (outK M out')) → QX (.exit 2) (SL.toS ⟨tm, [], none, nxK M out', kpre L M ks' ++ tokK M out', []⟩)) →
  WLr Go.Proofs.Try.prog [] ⟨Go.Proofs.Try.f39.ntmps, none, 39⟩ rc39_L2 (SL.toS ⟨l2Tm most bytes ys M out j, [], none, nxK M out, kpre L M ks ++ tokK M out, []⟩) QN QX := by
 intro m
 induction m with
 | zero =>
  intro j ks bytes out hj ho hb1 hb2 hx
  unfold rc39_L2
  refine WLr.of ?_
  refine WR.seq (WR.reg (WQ.runS [] 1000 _ _ _ _ rfl (WQ.nilS ?_)))
  rw [show decide ((j : Int) < (ys.length : Int)) = false from decide_eq_false (by omega)]
  refine WR.seq (WR.condF rfl (WR.exit ?_))
  refine hx _ ks out ?_ rfl
  rw [List.drop_eq_nil_iff.2 (by omega)]; rfl
 | succ m ih =>
  intro j ks bytes out hj ho hb1 hb2 hx
  have hlt : j < ys.length := by omega
  obtain ⟨i, hi⟩ : ∃ i, ys[j]? = some i := ⟨_, List.getElem?_eq_getElem hlt⟩
  obtain ⟨e, he⟩ : ∃ e, L[i]? = some e := ⟨_, List.getElem?_eq_getElem (hy i (List.mem_of_getElem? hi))⟩
  have hd : ys.drop j = i :: ys.drop (j + 1) := by
   rw [List.drop_eq_getElem_cons hlt]
   congr 1
   rw [List.getElem?_eq_getElem hlt] at hi; exact Option.some.inj hi
  rw [hd] at hx
  have hiL := (List.getElem?_eq_some_iff.1 he).1
  have gk : (flatZ L)[0 + i * 4 + 0]? = some (.str e.k) := by rw [Nat.zero_add, flatZ_get L i e 0 (by omega) he]; rfl
  have g0 : (ys.map kcell)[j]? = some (kcell i) := by rw [List.getElem?_map, hi]; rfl
  have hse := hsz e (List.mem_of_getElem? he)
  have hsz1 : e.k.length + e.v.length < 9223372036854775808 := by unfold sizeZ at hse; omega
  unfold rc39_L2
  refine WLr.of ?_
  refine WR.seq (WR.reg (WQ.runS [] 1000 _ _ _ _ rfl (WQ.nilS ?_)))
  rw [show decide ((j : Int) < (ys.length : Int)) = true from decide_eq_true (by omega)]
  refine WR.seq (WR.condT rfl (WR.skip ?_))
  refine WR.seq (WR.block (WR.seq (WR.reg ?_)))
  refine WQ.lightS rfl rfl rfl (ia_at rfl rfl g0 rfl) rfl (WQ.runS [] 1000 _ _ _ _ rfl (WQ.nilS ?_))
  refine WR.seq (WR.seq (WR.reg (WQ.runS [] 3 _ _ _ _ rfl ?_)))
  refine WQ.lightS rfl rfl rfl (rowIa rfl rfl hiL) rfl (WQ.runS [] 1 _ _ _ _ rfl ?_)
  refine WQ.lightS rfl rfl rfl (atLd rfl rfl gk) rfl ?_
  have hfind := findV_seen e.k ks
  by_cases hin : e.k ∈ ks
  ·rw [if_pos hin] at hfind
   refine WQ.lightS rfl rfl rfl (lkR rfl rfl rfl (kmap_at hM _) hfind) rfl (WQ.nilS ?_)
   have hs : keptG L most (i :: ys.drop (j + 1)) ks bytes out = keptG L most (ys.drop (j + 1)) ks bytes out := by simp only [keptG, he, if_pos hin]
   rw [hs] at hx
   unfold rc39_J2
   repeat (first | refine WR.seq ?_ | refine WR.block ?_ | refine WR.scope ?_ | refine WR.skip ?_ | refine WR.exit ?_ | refine WR.condT rfl ?_ | refine WR.condF rfl ?_ | refine WR.reg (WQ.runS [] 1000 _ _ _ _ rfl ?_) | refine WQ.nilS ?_ | refine WR.dreg hmix (DW.runS [] 1000 _ _ _ _ _ _ rfl ?_))
   rw [show IntKind.i64.wrap ((j : Int) + 1) = ((j + 1 : Nat) : Int) from by rw [wrap64 (by omega) (by omega)]; rfl]
   refine WIr.again (WLr.weak ?_ (ih (j + 1) ks bytes out (by omega) (by omega) hb1 hb2 hx))
   refine SW.tellR ?_ ?_
   ·repeat (first | exact .nil | refine .cons rfl (.v (VLe.refl _)) ?_ | refine .cons rfl (.l _ _ rfl) ?_ | refine .cons rfl (.v (VLe.unk _ _)) ?_)
   ·repeat (first | exact .nil | refine .cons rfl (.inl rfl) ?_)
  rw [if_neg hin] at hfind
  refine WQ.lightS rfl rfl rfl (lkN rfl rfl rfl (kmap_at hM _) hfind) rfl (WQ.nilS ?_)
  refine WR.condF rfl (WR.skip ?_)
  refine WR.seq (WR.reg (WQ.runS [] 3 _ _ _ _ rfl ?_))
  refine WQ.lightS rfl rfl rfl (rowIa rfl rfl hiL) rfl (WQ.runS [] 1 _ _ _ _ rfl ?_)
  refine WQ.lightS rfl rfl rfl (atLd rfl rfl gk) rfl ?_
  refine WQ.doesS rfl (muR rfl rfl rfl rfl (kmap_at hM _) (updV_seen e.k ks hin) (kmap_set hM _ _)) rfl (WQ.nilS ?_)
  refine WR.seq (WR.seq (WR.reg (WQ.runS [] 1 _ _ _ _ rfl ?_)))
  refine WQ.lightS rfl rfl rfl (lenK (l := out) rfl) rfl (WQ.runS [] 3 _ _ _ _ rfl ?_)
  by_cases hm : (out.length : Int) ≥ most
  ·rw [show decide ((out.length : Int) ≥ most) = true from decide_eq_true hm]
   have hs : keptG L most (i :: ys.drop (j + 1)) ks bytes out = out := by simp only [keptG, he, if_neg hin, if_pos (Or.inl hm : (out.length : Int) ≥ most ∨ (sizeZ e : Int) > bytes)]
   rw [hs] at hx
   refine WQ.runS [] 1000 _ _ _ _ rfl (WQ.nilS ?_)
   repeat (first | refine WR.seq ?_ | refine WR.block ?_ | refine WR.scope ?_ | refine WR.skip ?_ | refine WR.exit ?_ | refine WR.condT rfl ?_ | refine WR.condF rfl ?_ | refine WR.reg (WQ.runS [] 1000 _ _ _ _ rfl ?_) | refine WQ.nilS ?_ | refine WR.dreg hmix (DW.runS [] 1000 _ _ _ _ _ _ rfl ?_))
   exact hx _ _ _ rfl rfl
  rw [show decide ((out.length : Int) ≥ most) = false from decide_eq_false hm]
  refine WQ.runS [] 2 _ _ _ _ rfl ?_
  refine WQ.lightS rfl rfl rfl (rowIa rfl rfl hiL) rfl ?_
  refine WQ.lightS rfl rfl rfl (atLd4 rfl rfl he) rfl ?_
  refine WQ.callH rfl rfl rfl rfl rfl (sizeP_spec e hsz1 _) .base rfl (WQ.runS [] 2 _ _ _ _ rfl ?_)
  by_cases hbb : ((e.k.length + e.v.length : Nat) : Int) > bytes
  ·rw [show decide (((e.k.length + e.v.length : Nat) : Int) > bytes) = true from decide_eq_true hbb]
   have hs : keptG L most (i :: ys.drop (j + 1)) ks bytes out = out := by simp only [keptG, he, if_neg hin, if_pos (Or.inr hbb : (out.length : Int) ≥ most ∨ (sizeZ e : Int) > bytes)]
   rw [hs] at hx
   refine WQ.runS [] 1000 _ _ _ _ rfl (WQ.nilS ?_)
   repeat (first | refine WR.seq ?_ | refine WR.block ?_ | refine WR.scope ?_ | refine WR.skip ?_ | refine WR.exit ?_ | refine WR.condT rfl ?_ | refine WR.condF rfl ?_ | refine WR.reg (WQ.runS [] 1000 _ _ _ _ rfl ?_) | refine WQ.nilS ?_ | refine WR.dreg hmix (DW.runS [] 1000 _ _ _ _ _ _ rfl ?_))
   exact hx _ _ _ rfl rfl
  rw [show decide (((e.k.length + e.v.length : Nat) : Int) > bytes) = false from decide_eq_false hbb]
  have hno : ¬ ((out.length : Int) ≥ most ∨ (sizeZ e : Int) > bytes) := fun h => h.elim hm hbb
  have hs : keptG L most (i :: ys.drop (j + 1)) ks bytes out = keptG L most (ys.drop (j + 1)) (ks ++ [e.k]) (bytes - sizeZ e) (out ++ [i]) := by simp only [keptG, he, if_neg hin, if_neg hno]
  rw [hs] at hx
  refine WQ.runS [] 1000 _ _ _ _ rfl (WQ.nilS ?_)
  refine WR.condF rfl (WR.skip ?_)
  refine WR.seq (WR.reg (WQ.runS [] 3 _ _ _ _ rfl ?_))
  refine WQ.lightS rfl rfl rfl (rowIa rfl rfl hiL) rfl ?_
  refine WQ.lightS rfl rfl rfl (atLd4 rfl rfl he) rfl ?_
  refine WQ.callH rfl rfl rfl rfl rfl (sizeP_spec e hsz1 _) .base rfl (WQ.runS [] 1000 _ _ _ _ rfl (WQ.nilS ?_))
  rw [show IntKind.i64.wrap (bytes - ((e.k.length + e.v.length : Nat) : Int)) = bytes - (sizeZ e : Int) from wrap64 (by omega) (by omega)]
  refine WR.reg (WQ.runS [] 3 _ _ _ _ rfl ?_)
  refine WQ.doesS rfl (outK_app L M hM (ks ++ [e.k]) out i (by omega) rfl rfl) rfl (WQ.runS [] 1000 _ _ _ _ rfl (WQ.nilS ?_))
  unfold rc39_J2
  repeat (first | refine WR.seq ?_ | refine WR.block ?_ | refine WR.scope ?_ | refine WR.skip ?_ | refine WR.exit ?_ | refine WR.condT rfl ?_ | refine WR.condF rfl ?_ | refine WR.reg (WQ.runS [] 1000 _ _ _ _ rfl ?_) | refine WQ.nilS ?_ | refine WR.dreg hmix (DW.runS [] 1000 _ _ _ _ _ _ rfl ?_))
  rw [show IntKind.i64.wrap ((j : Int) + 1) = ((j + 1 : Nat) : Int) from by rw [wrap64 (by omega) (by omega)]; rfl]
  refine WIr.again (WLr.weak ?_ (ih (j + 1) (ks ++ [e.k]) (bytes - sizeZ e) (out ++ [i]) (by omega) (by simp; omega) (by unfold sizeZ; omega) (by unfold sizeZ; omega) hx))
  refine SW.tellR ?_ ?_
  ·repeat (first | exact .nil | refine .cons rfl (.v (VLe.refl _)) ?_ | refine .cons rfl (.l _ _ rfl) ?_ | refine .cons rfl (.v (VLe.unk _ _)) ?_)
  ·repeat (first | exact .nil | refine .cons rfl (.inl rfl) ?_)
def lastK (L : List EZ) (x : Nat) : Int := match L[x]? with | some e => e.last | none => 0
def orderF (L : List EZ) : List Nat := stableF (lastK L) (liveF L 0).length (liveF L 0)
def keptF (L : List EZ) (most bytes : Int) : List Nat := keptG L most (orderF L) [] bytes []
theorem liveF_in : ∀ (l : List EZ) (i x : Nat), x ∈ liveF l i → i ≤ x ∧ x < i + l.length
 | [], i, x, h => by cases h
 | e :: l, i, x, h => by
  unfold liveF at h
  split at h
  ·rcases List.mem_cons.1 h with rfl | h
   ·simp
   ·have := liveF_in l (i + 1) x h; simp; omega
  ·have := liveF_in l (i + 1) x h; simp; omega
theorem liveF_len : ∀ (l : List EZ) (i : Nat), (liveF l i).length ≤ l.length
 | [], _ => Nat.le_refl _
 | e :: l, i => by
  unfold liveF
  split
  ·simp; exact liveF_len l (i + 1)
  ·have := liveF_len l (i + 1); simp; omega
theorem live_good (L : List EZ) : GoodP L (liveF L 0).length (liveF L 0) := ⟨rfl, fun x hx => by have := (liveF_in L 0 x hx).2; omega⟩
theorem order_good (L : List EZ) : GoodP L (liveF L 0).length (orderF L) := (live_good L).stable _ _
theorem kcells_in {D : Nat → Prop} (l : List Nat) : Inss D (l.map kcell) := Inss_map fun x _ => ⟨trivial, trivial⟩
theorem outK_le (M : Nat) (out : List Nat) : VLe (outK M out) (.lst (out.map kcell) .unk) := by cases out <;> exact VLe.unk _ _
theorem kept_core (L : List EZ) (most bytes : Int) (hL : L.length ≤ 100000) (hsz : ∀ e ∈ L, sizeZ e ≤ 1000000000) (hb1 : -9223372036854775808 ≤ bytes) (hb2 : bytes < 9223372036854775808) : SCall Go.Proofs.Try.prog [] 39 [.sl 1000 0 L.length (.op 4), .int .i64 most, .int .i64 bytes] none ⟨1001, og [(1000, .cells true (flatZ L))], []⟩ (.ret (.lst ((keptF L most bytes).map kcell) .unk)) none ⟨1001, og [(1000, .cells true (flatZ L))], []⟩ := by
 have hK : ∀ x e, L[x]? = some e → lastK L x = e.last := fun x e he => by unfold lastK; rw [he]
 refine SCall.listed (fn := Go.Proofs.Try.f39) (by kernel_rfl) res39 (by kernel_rfl) (by kernel_rfl) (Nat.le_refl _) rfl ((by exact ⟨flatZ_in _, trivial⟩)) (by exact ⟨kcells_in _, trivial⟩) ?_
 unfold rc39
 refine WR.seq (WR.reg (WQ.runS [3] 1000 _ _ _ _ rfl (WQ.nilS ?_)))
 refine WR.seq (WR.reg (WQ.runS [] 1000 _ _ _ _ rfl (WQ.nilS ?_)))
 refine WR.seq (WR.seq (WR.reg (WQ.runS [] 1000 _ _ _ _ rfl (WQ.nilS ?_))))
 refine WR.block (WR.loop (WLr.weak (s := SL.toS ⟨l1Tm L most bytes [] 0, [], none, nxI [], preI L ++ rowI [], []⟩) ?_ (live_loop L most bytes hL L.length 0 [] (by omega) (Nat.le_refl _) (fun tm ys hys t1 t2 t3 t6 t7 => ?_))))
 ·refine SW.tellR ?_ ?_
  ·repeat (first | exact .nil | refine .cons rfl (.v (VLe.refl _)) ?_ | refine .cons rfl (.l _ _ rfl) ?_ | refine .cons rfl (.v (VLe.unk _ _)) ?_)
  ·repeat (first | exact .nil | refine .cons rfl (.inl rfl) ?_)
 have hys : ys = liveF L 0 := by rw [hys]; simp
 subst hys
 have hn := Nat.le_trans (liveF_len L 0) hL
 refine WR.weak (s := SL.toS ⟨[(1, .v (.int .i64 most)), (2, .v (.int .i64 bytes)), (3, .v (.ptr 1001 0)), (6, .v (.lst [] (.ex 0))), (7, .v (lvI (liveF L 0)))], [], none, nxI (liveF L 0), preI L ++ rowI (liveF L 0), []⟩) (SW.tellR (.cons t1 (.v (VLe.refl _)) (.cons t2 (.v (VLe.refl _)) (.cons t3 (.v (VLe.refl _)) (.cons t6 (.v (VLe.refl _)) (.cons t7 (.v (VLe.refl _)) .nil))))) .nil) ?_
 have og := order_good L
 have hlg := live_good L
 have hord : orderF L = stableF (lastK L) (liveF L 0).length (liveF L 0) := rfl
 have hkf : keptF L most bytes = keptG L most (orderF L) [] bytes [] := rfl
 rw [hkf]
 generalize orderF L = ord at *
 have hrest : ∀ (tm : TM) (nx : Nat), 1002 ≤ nx → tg tm 1 = some (.v (.int .i64 most)) → tg tm 2 = some (.v (.int .i64 bytes)) → tg tm 3 = some (.v (.ptr 1001 0)) → tg tm 6 = some (.v (.lst [] (.ex 0))) → tg tm 7 = some (.v (.lst (ord.map kcell) .unk)) →
   WR Go.Proofs.Try.prog [] ⟨Go.Proofs.Try.f39.ntmps, none, 39⟩ (.seq (.reg [⟨0, 0, some (.mm none), [], some 30, none⟩, ⟨0, 0, some (.mv (.t 30)), [], some 10, none⟩]) (.seq (.seq (.reg [⟨0, 0, some (.mv (.t 7)), [], some 31, none⟩, ⟨0, 0, some (.lenL (.t 31)), [], some 32, none⟩, ⟨0, 0, some (.mv (.c (.int .i64 0))), [], some 33, none⟩]) (.block 2 (.loop rc39_L2))) rc39_J3)) (SL.toS ⟨tm, [], none, nx, preI L ++ [], []⟩)
    (RetS Go.Proofs.Try.prog Go.Proofs.Try.f39 (.lst ((keptG L most ord [] bytes []).map kcell) .unk) 1001 [(1000, .cells true (flatZ L))]) (retX (RetS Go.Proofs.Try.prog Go.Proofs.Try.f39 (.lst ((keptG L most ord [] bytes []).map kcell) .unk) 1001 [(1000, .cells true (flatZ L))])) := by
  intro tm nx hnx g1 g2 g3 g6 g7
  refine WR.weak (s := SL.toS ⟨[(1, .v (.int .i64 most)), (2, .v (.int .i64 bytes)), (3, .v (.ptr 1001 0)), (6, .v (.lst [] (.ex 0))), (7, .v (.lst (ord.map kcell) .unk))], [], none, nx, preI L ++ [], []⟩) (SW.tellR (.cons g1 (.v (VLe.refl _)) (.cons g2 (.v (VLe.refl _)) (.cons g3 (.v (VLe.refl _)) (.cons g6 (.v (VLe.refl _)) (.cons g7 (.v (VLe.refl _)) .nil))))) .nil) ?_
  refine WR.seq (WR.reg (WQ.doesS rfl (mmR (preI_lt hnx)) rfl (WQ.runS [] 1000 _ _ _ _ rfl (WQ.nilS ?_))))
  refine WR.seq (WR.seq (WR.reg (WQ.runS [] 1000 _ _ _ _ rfl (WQ.nilS ?_))))
  refine WR.block (WR.loop (WLr.weak (s := SL.toS ⟨l2Tm most bytes ord nx [] 0, [], none, nxK nx [], kpre L nx [] ++ tokK nx [], []⟩) ?_ (kept_loop L most hsz ord og.2 (by have := og.1; omega) nx hnx ord.length 0 [] bytes [] (by omega) (Nat.le_refl _) hb1 hb2 (fun tm ks' out' ho' h6 => ?_))))
  ·rw [List.length_map]
   refine SW.tellR ?_ ?_
   ·repeat (first | exact .nil | refine .cons rfl (.v (VLe.refl _)) ?_ | refine .cons rfl (.l _ _ rfl) ?_ | refine .cons rfl (.v (VLe.unk _ _)) ?_)
   ·repeat (first | exact .nil | refine .cons rfl (.inl rfl) ?_)
  rw [List.drop_zero] at ho'
  refine WR.weak (s := SL.toS ⟨[(6, .v (outK nx out'))], [], none, nxK nx out', kpre L nx ks' ++ tokK nx out', []⟩) (SW.tellR (.cons h6 (.v (VLe.refl _)) .nil) .nil) ?_
  unfold rc39_J3
  repeat (first | refine WR.seq ?_ | refine WR.block ?_ | refine WR.scope ?_ | refine WR.skip ?_ | refine WR.exit ?_ | refine WR.condT rfl ?_ | refine WR.condF rfl ?_ | refine WR.reg (WQ.runS [] 1000 _ _ _ _ rfl ?_) | refine WQ.nilS ?_ | refine WR.dreg hmix (DW.runS [] 1000 _ _ _ _ _ _ rfl ?_))
  refine WR.ret ⟨rfl, rfl, ⟨_, rfl, ?_⟩, fun b hb => ?_⟩
  ·rw [← ho']; exact outK_le nx out'
  ·have hb : b < 1001 := hb
   show VM.og [(1000, .cells true (flatZ L))] b = VM.og (kpre L nx ks' ++ tokK nx out') b
   have key : ∀ tl : OL, (∀ e ∈ tl, 1001 ≤ e.1) → VM.og (kpre L nx ks' ++ tl) b = VM.og [(1000, .cells true (flatZ L))] b := by
    intro tl htl
    have h0 : VM.og tl b = none := by
     induction tl with
     | nil => rfl
     | cons e tl ih =>
      have := htl e (by simp)
      rw [og_cons, if_neg (by omega)]; exact ih fun e he => htl e (by simp [he])
    simp only [kpre, List.cons_append, List.nil_append, og_cons, h0]
    by_cases hb0 : b = 1000
    ·rw [if_pos hb0, if_pos hb0]
    ·rw [if_neg hb0, if_neg hb0, if_neg (by omega), if_neg (by omega)]; rfl
   symm
   refine key _ ?_
   cases out' with
   | nil => intro e he; cases he
   | cons x l => intro e he; simp [tokK] at he; subst he; simp only; omega
 unfold rc39_J4
 refine WR.seq (WR.reg (WQ.runS [] 2 _ _ _ _ rfl ?_))
 generalize liveF L 0 = lv at *
 cases lv with
 | nil =>
  refine WQ.callH rfl rfl rfl rfl rfl (sortNil_core L) .base rfl (WQ.runS [] 1000 _ _ _ _ rfl (WQ.nilS ?_))
  have : ord = [] := List.eq_nil_of_length_eq_zero og.1
  subst this
  refine WR.weak (s := SL.toS ⟨[(1, .v (.int .i64 most)), (2, .v (.int .i64 bytes)), (3, .v (.ptr 1001 0)), (6, .v (.lst [] (.ex 0))), (7, .v (.lst [] .unk))], [], none, 1002, preI L ++ [], []⟩) ?_ (hrest _ 1002 (Nat.le_refl _) rfl rfl rfl rfl rfl)
  refine SW.tellR ?_ ?_
  ·repeat (first | exact .nil | refine .cons rfl (.v (VLe.refl _)) ?_ | refine .cons rfl (.l _ _ rfl) ?_ | refine .cons rfl (.v (VLe.unk _ _)) ?_)
  ·repeat (first | exact .nil | refine .cons rfl (.inl rfl) ?_)
 | cons x l =>
  refine WQ.callH rfl rfl rfl rfl rfl (sort_lift L (lastK L) (l.length + 1) (by simp at hn; omega) hK (x :: l) hlg (q := 1000) (c := 1001) (r := 1002 + l.length) (by omega) (by omega) (by omega) (by decide) (by decide) (by show 1000 ≤ _; omega) rfl rfl (rowAt _ (preI_lt (by omega)))) (.put .base (rowSet _ _ (preI_lt (by omega)))) rfl (WQ.runS [] 1000 _ _ _ _ rfl (WQ.nilS ?_))
  rw [show stableF (lastK L) (l.length + 1) (x :: l) = ord from hord.symm]
  refine WR.weak (SW.frzR (d := 7) (es := ord.map kcell) (preI_lt (by omega)) rfl (by show 1000 ≤ _; omega) (ints_flat ord) (by intro e he; obtain ⟨q, _, rfl⟩ := List.mem_map.1 he; rfl) (by rw [List.length_map]; exact og.1) (by omega)) ?_
  exact hrest _ _ (by unfold nxI; omega) rfl rfl rfl rfl rfl
end Go.VM
end
section
/- The program's Run. -/
set_option maxRecDepth 100000
set_option linter.unusedVariables false
set_option linter.unusedSimpArgs false
namespace Go.VM
open Go.RowKit
def pickF (L : List EZ) (is : List Nat) : List EZ := is.filterMap fun i => L[i]?
theorem pickF_snoc (L : List EZ) (is : List Nat) (i : Nat) (e : EZ) (h : L[i]? = some e) : pickF L (is ++ [i]) = pickF L is ++ [e] := by simp [pickF, List.filterMap_append, h]
theorem pickF_len (L : List EZ) (is : List Nat) : (pickF L is).length ≤ is.length := List.length_filterMap_le _ _
theorem keptG_in (L : List EZ) (most : Int) : ∀ (ys : List Nat) (ks : List (List Nat)) (b : Int) (out : List Nat), (keptG L most ys ks b out).length ≤ out.length + ys.length ∧ ∀ x ∈ keptG L most ys ks b out, x ∈ out ∨ x ∈ ys
 | [], _, _, out => ⟨by simp [keptG], fun x h => .inl h⟩
 | i :: ys, ks, b, out => by
  unfold keptG
  split
  ·exact ⟨by simp, fun x h => .inl h⟩
  ·rename_i e he
   split
   ·obtain ⟨h1, h2⟩ := keptG_in L most ys ks b out
    exact ⟨by simp; omega, fun x h => (h2 x h).imp id fun h => by simp [h]⟩
   ·split
    ·exact ⟨by simp, fun x h => .inl h⟩
    ·obtain ⟨h1, h2⟩ := keptG_in L most ys (ks ++ [e.k]) (b - sizeZ e) (out ++ [i])
     refine ⟨by simp only [List.length_append, List.length_cons, List.length_nil] at h1 ⊢; omega, fun x h => ?_⟩
     rcases h2 x h with h | h
     ·rcases List.mem_append.1 h with h | h
      ·exact .inl h
      ·exact .inr (by simp at h; simp [h])
     ·exact .inr (by simp [h])
theorem keptF_len (L : List EZ) (most bytes : Int) : (keptF L most bytes).length ≤ L.length := by
 have h := (keptG_in L most (orderF L) [] bytes []).1
 have g := (order_good L).1
 have k := liveF_len L 0
 simp only [List.length_nil, Nat.zero_add] at h
 unfold keptF; omega
theorem keptF_mem {L : List EZ} {most bytes : Int} {x : Nat} (h : x ∈ keptF L most bytes) : x < L.length := by
 rcases (keptG_in L most (orderF L) [] bytes []).2 x h with h | h
 ·cases h
 ·exact (order_good L).2 x h
def runP (L : List EZ) (most bytes : Int) : List EZ := pickF L (keptF L most bytes)
def clV (r : Nat) (L : List EZ) : V := match L with | [] => .lst [] (.ex 0) | e :: l => .sl r 0 (l.length + 1) (.op 4)
theorem clV_some {r : Nat} {L : List EZ} (h : L ≠ []) : clV r L = .sl r 0 L.length (.op 4) := by
 cases L with
 | nil => exact absurd rfl h
 | cons e l => rfl
theorem row_lift {f : FuncId} {xs : List V} {v : V} {L : List EZ} {n : Nat} (core : SCall Go.Proofs.Try.prog [] f (.sl 1000 0 n (.op 4) :: xs) none ⟨1001, og [(1000, .cells true (flatZ L))], []⟩ (.ret v) none ⟨1001, og [(1000, .cells true (flatZ L))], []⟩) (ha : Ins (· < glim) xs) (hv : v.In (· < glim)) {h : H} {r : Nat} (hr : glim ≤ r) (hob : h.ob r = some (.cells true (flatZ L))) :
  SCall Go.Proofs.Try.prog [] f (.sl r 0 n (.op 4) :: xs) none h (.ret v) none h := by
 refine SCall.frameL (n := 0) [r] rfl core (by simp) (by simpa using hr) (fun k => ?_) rfl (fun k d o hk ho => ?_) (by exact ⟨flatZ_in _, trivial⟩) ⟨(by show 1000 < glim + 1; decide), Ins.mono (fun i hi => Nat.lt_of_lt_of_le hi (Nat.le_add_right _ _)) ha⟩ (hv.mono fun i hi => Nat.lt_of_lt_of_le hi (Nat.le_add_right _ _)) (by exact ⟨flatZ_in _, trivial⟩) ?_ (V.ren_id (fun i hi => ρL_low hi) hv) rfl rfl (fun k hk => ?_) (fun d hd => rfl)
 ·simp only [og_cons]
  show _ ↔ 1000 ≤ k ∧ k < 1001
  split
  ·simp; omega
  ·simp [og]; omega
 ·match k, hk with
  | 0, hk =>
   cases hk; cases ho
   rw [hob]
   show some _ = some (Obj.cells true (rens _ (flatZ L)))
   rw [flatZ_ren]
 ·show _ :: rens _ xs = _
  rw [rens_id (fun i hi => ρL_low hi) ha]; rfl
 ·have hk : k < 1 := hk
  match k, hk with
  | 0, _ =>
   show h.ob r = some (Obj.cells true (rens _ (flatZ L)))
   rw [flatZ_ren]; exact hob
theorem keptNil_core (most bytes : Int) (h : H) : SCall Go.Proofs.Try.prog [] 39 [.lst [] (.ex 0), .int .i64 most, .int .i64 bytes] none h (.ret (.lst [] .unk)) none h := by
 refine SCall.pure0 rfl ?_ (by exact ⟨⟨trivial, trivial⟩, trivial, trivial, trivial⟩) (by exact ⟨trivial, trivial⟩) h
 have h65 : SCall Go.Proofs.Try.prog [] 65 [.lst [] (.ex 0), .fn (.func 66) [] [.ptr 1000 0]] none ⟨1001, og [(1000, .cells false [.lst [] (.ex 0)])], []⟩ (.ret (.tup [])) none ⟨1001, og [(1000, .cells false [.lst [] (.ex 0)])], []⟩ := by
  have hin : olIn (· < 1001) [(1000, .cells false [.lst [] (.ex 0)])] := ⟨⟨⟨trivial, trivial⟩, trivial⟩, trivial⟩
  have h82 : SCall Go.Proofs.Try.prog [] 82 [.lst [] (.ex 0), .int .i64 0, .int .i64 0, .fn (.func 66) [] [.ptr 1000 0]] none ⟨1001, og [(1000, .cells false [.lst [] (.ex 0)])], []⟩ (.ret (.tup [])) none ⟨1001, og [(1000, .cells false [.lst [] (.ex 0)])], []⟩ := by
   refine SCall.listed (fn := Go.Proofs.Try.f82) (by kernel_rfl) res82 (by kernel_rfl) (by kernel_rfl) (Nat.le_refl _) rfl (hin) trivial ?_
   unfold rc82
   refine WR.seq (WR.reg (WQ.runS [] 1000 _ _ _ _ rfl (WQ.nilS ?_)))
   refine WR.block (WR.loop ?_)
   unfold rc82_L2
   refine WLr.of ?_
   refine WR.seq (WR.seq (WR.reg (WQ.runS [] 1000 _ _ _ _ rfl (WQ.nilS ?_))))
   refine WR.condF rfl (WR.exit ?_)
   exact ⟨rfl, rfl, ⟨_, rfl, VLe.refl _⟩, fun b _ => rfl⟩
  have h78 : SCall Go.Proofs.Try.prog [] 78 [.lst [] (.ex 0), .int .i64 0, .fn (.func 66) [] [.ptr 1000 0]] none ⟨1001, og [(1000, .cells false [.lst [] (.ex 0)])], []⟩ (.ret (.tup [])) none ⟨1001, og [(1000, .cells false [.lst [] (.ex 0)])], []⟩ := by
   refine SCall.listed (fn := Go.Proofs.Try.f78) (by kernel_rfl) res78 (by kernel_rfl) (by kernel_rfl) (Nat.le_refl _) rfl (hin) trivial ?_
   unfold rc78
   refine WR.seq (WR.reg (WQ.runS [] 1000 _ _ _ _ rfl (WQ.nilS ?_)))
   refine WR.seq (WR.reg (WQ.runS [] 1000 _ _ _ _ rfl (WQ.nilS ?_)))
   refine WR.seq (WR.block (WR.loop ?_))
   unfold rc78_L1
   refine WLr.of ?_
   refine WR.seq (WR.seq (WR.reg (WQ.runS [] 1000 _ _ _ _ rfl (WQ.nilS ?_))))
   refine WR.condF rfl (WR.exit ?_)
   unfold rc78_J3
   refine WR.seq (WR.reg (WQ.runS [] 4 _ _ _ _ rfl ?_))
   refine WQ.callH rfl rfl rfl rfl rfl h82 .base rfl (WQ.runS [] 1000 _ _ _ _ rfl (WQ.nilS ?_))
   refine WR.block (WR.loop ?_)
   unfold rc78_L3
   refine WLr.of ?_
   refine WR.seq (WR.seq (WR.reg (WQ.runS [] 1000 _ _ _ _ rfl (WQ.nilS ?_))))
   refine WR.condF rfl (WR.exit ?_)
   exact ⟨rfl, rfl, ⟨_, rfl, VLe.refl _⟩, fun b _ => rfl⟩
  refine SCall.listed (fn := Go.Proofs.Try.f65) (by kernel_rfl) res65 (by kernel_rfl) (by kernel_rfl) (Nat.le_refl _) rfl (hin) trivial ?_
  unfold rc65
  refine WR.reg (WQ.runS [] 4 _ _ _ _ rfl ?_)
  refine WQ.callH rfl rfl rfl rfl rfl h78 .base rfl (WQ.runS [] 1000 _ _ _ _ rfl (WQ.nilS ?_))
  exact ⟨rfl, rfl, ⟨_, rfl, VLe.refl _⟩, fun b _ => rfl⟩
 refine SCall.listed (fn := Go.Proofs.Try.f39) (by kernel_rfl) res39 (by kernel_rfl) (by kernel_rfl) (Nat.le_refl _) rfl (trivial) (by exact ⟨trivial, trivial⟩) ?_
 unfold rc39
 refine WR.seq (WR.reg (WQ.runS [3] 1000 _ _ _ _ rfl (WQ.nilS ?_)))
 refine WR.seq (WR.reg (WQ.runS [] 1000 _ _ _ _ rfl (WQ.nilS ?_)))
 refine WR.seq (WR.seq (WR.reg (WQ.runS [] 1000 _ _ _ _ rfl (WQ.nilS ?_))))
 refine WR.block (WR.loop ?_)
 unfold rc39_L1
 refine WLr.of ?_
 refine WR.seq (WR.reg (WQ.runS [] 1000 _ _ _ _ rfl (WQ.nilS ?_)))
 refine WR.seq (WR.condF rfl (WR.exit ?_))
 unfold rc39_J4
 refine WR.seq (WR.reg (WQ.runS [] 2 _ _ _ _ rfl ?_))
 refine WQ.callH rfl rfl rfl rfl rfl h65 .base rfl (WQ.runS [] 1000 _ _ _ _ rfl (WQ.nilS ?_))
 refine WR.seq (WR.reg (WQ.runS [] 1000 _ _ _ _ rfl (WQ.nilS ?_)))
 refine WR.seq (WR.seq (WR.reg (WQ.runS [] 1000 _ _ _ _ rfl (WQ.nilS ?_))))
 refine WR.block (WR.loop ?_)
 unfold rc39_L2
 refine WLr.of ?_
 refine WR.seq (WR.reg (WQ.runS [] 1000 _ _ _ _ rfl (WQ.nilS ?_)))
 refine WR.seq (WR.condF rfl (WR.exit ?_))
 unfold rc39_J3
 repeat (first | refine WR.seq ?_ | refine WR.block ?_ | refine WR.scope ?_ | refine WR.skip ?_ | refine WR.exit ?_ | refine WR.condT rfl ?_ | refine WR.condF rfl ?_ | refine WR.reg (WQ.runS [] 1000 _ _ _ _ rfl ?_) | refine WQ.nilS ?_ | refine WR.dreg hmix (DW.runS [] 1000 _ _ _ _ _ _ rfl ?_))
 refine WR.ret ⟨rfl, rfl, ⟨_, rfl, VLe.unk _ _⟩, fun b hb => ?_⟩
 have hb : b < 1000 := hb
 symm
 show og [(1000, _), (1001, _)] b = none
 simp only [og_cons]
 rw [if_neg (by omega), if_neg (by omega)]; rfl
theorem kept_spec (L : List EZ) (most bytes : Int) (hL : L.length ≤ 100000) (hsz : ∀ e ∈ L, sizeZ e ≤ 1000000000) (hb1 : -9223372036854775808 ≤ bytes) (hb2 : bytes < 9223372036854775808) {h : H} {r : Nat} (hr : glim ≤ r) (hob : L ≠ [] → h.ob r = some (.cells true (flatZ L))) :
  SCall Go.Proofs.Try.prog [] 39 [clV r L, .int .i64 most, .int .i64 bytes] none h (.ret (.lst ((keptF L most bytes).map kcell) .unk)) none h := by
 by_cases hne : L = []
 ·subst hne
  exact keptNil_core most bytes h
 ·rw [clV_some hne]
  exact row_lift (kept_core L most bytes hL hsz hb1 hb2) (by exact ⟨trivial, trivial, trivial⟩) (by exact ⟨kcells_in _, trivial⟩) hr (hob hne)
def outP : List EZ → V
 | [] => .lst [] (.ex 0)
 | e :: l => .lst ((e :: l).map encZ) (.tk 1001)
def olP (L out : List EZ) : OL := (1000, .cells true (flatZ L)) :: (match out with | [] => [] | e :: l => [(1001, .tok (l.length + 1))])
def nxP : List EZ → Nat
 | [] => 1001
 | _ :: _ => 1002
theorem outP_le (out : List EZ) : VLe (outP out) (.lst (out.map encZ) .unk) := by cases out <;> exact VLe.unk _ _
theorem outP_app {nt : Nat} {tm : TM} {x y : RX} {z : List V} {c : LC} {lc : LM} (L out : List EZ) (e : EZ) (hl : out.length ≤ 100000) (hx : rv [] tm x = some (outP out)) (hy : rv [] tm y = some (.lst [encZ e] c)) :
  DoesR Go.Proofs.Try.prog [] nt tm ⟨nxP out, og (olP L out), lc⟩ (some (.app x y 4 48 z)) (.v (outP (out ++ [e]))) ⟨nxP (out ++ [e]), og (olP L (out ++ [e])), lc⟩ := by
 cases out with
 | nil => exact app_exR (k := 0) (n2 := 1) (fs2 := [encZ e]) (es2 := [encZ e]) hx hy (by simp) (fun e h => by cases h) (fun x hx => by simp at hx; subst hx; rfl) (by simp [lim]) rfl rfl rfl rfl
 | cons e0 l =>
  exact app_tkR (id := 1001) (n := l.length + 1) (n2 := (l ++ [e]).length + 1) (fs2 := [encZ e]) (es2 := (e0 :: (l ++ [e])).map encZ) hx hy rfl (by simp) encZ_len (fun x hx => by simp at hx; subst hx; rfl) (by simp [lim] at hl ⊢; omega) rfl (by simp) (by simp) rfl
def p1Tm (L : List EZ) (is : List Nat) (out : List EZ) (j : Nat) : TM := [(0, .v (.sl 1000 0 L.length (.op 4))), (6, .v (outP out)), (12, .v (.lst (is.map kcell) .unk)), (13, .v (.int .i64 is.length)), (14, .v (.int .i64 j))]
theorem runP_loop {QN : S → Prop} {QX : X → S → Prop} (L : List EZ) (is : List Nat) (hin : ∀ x ∈ is, x < L.length) (hlen : is.length ≤ 100000) : ∀ (m j : Nat) (out : List EZ), j + m = is.length → out = pickF L (is.take j) →
  (∀ tm, tg tm 6 = some (.v (outP (pickF L is))) → QX (.exit 0) (SL.toS ⟨tm, [], none, nxP (pickF L is), olP L (pickF L is), []⟩)) →
  WLr Go.Proofs.Try.prog [] ⟨Go.Proofs.Try.f15.ntmps, none, 15⟩ rc15_L1 (SL.toS ⟨p1Tm L is out j, [], none, nxP out, olP L out, []⟩) QN QX := by
 intro m
 induction m with
 | zero =>
  intro j out hj ho hx
  unfold rc15_L1
  refine WLr.of ?_
  refine WR.seq (WR.reg (WQ.runS [] 1000 _ _ _ _ rfl (WQ.nilS ?_)))
  rw [show decide ((j : Int) < (is.length : Int)) = false from decide_eq_false (by omega)]
  refine WR.seq (WR.condF rfl (WR.exit ?_))
  rw [List.take_of_length_le (by omega)] at ho
  rw [← ho] at hx
  exact hx _ rfl
 | succ m ih =>
  intro j out hj ho hx
  have hlt : j < is.length := by omega
  obtain ⟨i, hi⟩ : ∃ i, is[j]? = some i := ⟨_, List.getElem?_eq_getElem hlt⟩
  obtain ⟨e, he⟩ : ∃ e, L[i]? = some e := ⟨_, List.getElem?_eq_getElem (hin i (List.mem_of_getElem? hi))⟩
  have hiL := (List.getElem?_eq_some_iff.1 he).1
  have g0 : (is.map kcell)[j]? = some (kcell i) := by rw [List.getElem?_map, hi]; rfl
  have hol : out.length ≤ 100000 := by rw [ho]; have := pickF_len L (is.take j); rw [List.length_take] at this; omega
  have ho2 : out ++ [e] = pickF L (is.take (j + 1)) := by
   rw [List.take_add_one, hi, ho]
   exact (pickF_snoc L _ i e he).symm
  unfold rc15_L1
  refine WLr.of ?_
  refine WR.seq (WR.reg (WQ.runS [] 1000 _ _ _ _ rfl (WQ.nilS ?_)))
  rw [show decide ((j : Int) < (is.length : Int)) = true from decide_eq_true (by omega)]
  refine WR.seq (WR.condT rfl (WR.skip ?_))
  refine WR.seq (WR.block (WR.seq (WR.reg ?_)))
  refine WQ.lightS rfl rfl rfl (ia_at rfl rfl g0 rfl) rfl (WQ.runS [] 1000 _ _ _ _ rfl (WQ.nilS ?_))
  refine WR.reg (WQ.runS [] 3 _ _ _ _ rfl ?_)
  refine WQ.lightS rfl rfl rfl (rowIa rfl rfl hiL) rfl ?_
  refine WQ.lightS rfl rfl rfl (atLd4 rfl rfl he) rfl (WQ.runS [] 1 _ _ _ _ rfl ?_)
  refine WQ.doesS rfl (outP_app L out e (by omega) rfl rfl) rfl (WQ.runS [] 1000 _ _ _ _ rfl (WQ.nilS ?_))
  unfold rc15_J1
  repeat (first | refine WR.seq ?_ | refine WR.block ?_ | refine WR.scope ?_ | refine WR.skip ?_ | refine WR.exit ?_ | refine WR.condT rfl ?_ | refine WR.condF rfl ?_ | refine WR.reg (WQ.runS [] 1000 _ _ _ _ rfl ?_) | refine WQ.nilS ?_ | refine WR.dreg hmix (DW.runS [] 1000 _ _ _ _ _ _ rfl ?_))
  rw [show IntKind.i64.wrap ((j : Int) + 1) = ((j + 1 : Nat) : Int) from by rw [wrap64 (by omega) (by omega)]; rfl]
  refine WIr.again (WLr.weak ?_ (ih (j + 1) (out ++ [e]) (by omega) ho2 hx))
  refine SW.tellR ?_ ?_
  ·repeat (first | exact .nil | refine .cons rfl (.v (VLe.refl _)) ?_ | refine .cons rfl (.l _ _ rfl) ?_ | refine .cons rfl (.v (VLe.unk _ _)) ?_)
  ·repeat (first | exact .nil | refine .cons rfl (.inl rfl) ?_)
theorem runP_core (L : List EZ) (most bytes : Int) (hne : L ≠ []) (hL : L.length ≤ 100000) (hsz : ∀ e ∈ L, sizeZ e ≤ 1000000000) (hb1 : -9223372036854775808 ≤ bytes) (hb2 : bytes < 9223372036854775808) :
  SCall Go.Proofs.Try.prog [] 15 [.sl 1000 0 L.length (.op 4), .int .i64 most, .int .i64 bytes] none ⟨1001, og [(1000, .cells true (flatZ L))], []⟩ (.ret (.lst ((runP L most bytes).map encZ) .unk)) none ⟨1001, og [(1000, .cells true (flatZ L))], []⟩ := by
 have kp : SCall Go.Proofs.Try.prog [] 39 [.sl 1000 0 L.length (.op 4), .int .i64 most, .int .i64 bytes] none ⟨1001, og [(1000, .cells true (flatZ L))], []⟩ _ none _ := kept_core L most bytes hL hsz hb1 hb2
 refine SCall.listed (fn := Go.Proofs.Try.f15) (by kernel_rfl) res15 (by kernel_rfl) (by kernel_rfl) (Nat.le_refl _) rfl ((by exact ⟨flatZ_in _, trivial⟩)) (by exact ⟨encZs_in _, trivial⟩) ?_
 unfold rc15
 refine WR.seq (WR.reg (WQ.runS [] 1000 _ _ _ _ rfl (WQ.nilS ?_)))
 refine WR.seq (WR.seq (WR.reg (WQ.runS [] 3 _ _ _ _ rfl ?_)))
 refine WQ.callH rfl rfl rfl rfl rfl kp .base rfl (WQ.runS [] 1000 _ _ _ _ rfl (WQ.nilS ?_))
 refine WR.block (WR.loop (WLr.weak (s := SL.toS ⟨p1Tm L (keptF L most bytes) [] 0, [], none, nxP [], olP L [], []⟩) ?_ (runP_loop L (keptF L most bytes) (fun x h => keptF_mem h) (by have := keptF_len L most bytes; omega) (keptF L most bytes).length 0 [] (by omega) (by simp [pickF]) (fun tm h6 => ?_))))
 ·rw [List.length_map]
  refine SW.tellR ?_ ?_
  ·repeat (first | exact .nil | refine .cons rfl (.v (VLe.refl _)) ?_ | refine .cons rfl (.l _ _ rfl) ?_ | refine .cons rfl (.v (VLe.unk _ _)) ?_)
  ·repeat (first | exact .nil | refine .cons rfl (.inl rfl) ?_)
 refine WR.weak (s := SL.toS ⟨[(6, .v (outP (runP L most bytes)))], [], none, nxP (runP L most bytes), olP L (runP L most bytes), []⟩) (SW.tellR (.cons h6 (.v (VLe.refl _)) .nil) .nil) ?_
 unfold rc15_J2
 repeat (first | refine WR.seq ?_ | refine WR.block ?_ | refine WR.scope ?_ | refine WR.skip ?_ | refine WR.exit ?_ | refine WR.condT rfl ?_ | refine WR.condF rfl ?_ | refine WR.reg (WQ.runS [] 1000 _ _ _ _ rfl ?_) | refine WQ.nilS ?_ | refine WR.dreg hmix (DW.runS [] 1000 _ _ _ _ _ _ rfl ?_))
 refine WR.ret ⟨rfl, rfl, ⟨_, rfl, outP_le _⟩, fun b hb => ?_⟩
 have hb : b < 1001 := hb
 show og [(1000, .cells true (flatZ L))] b = og (olP L (runP L most bytes)) b
 cases runP L most bytes with
 | nil => rfl
 | cons e l => simp only [olP, og_cons]; rw [if_neg (show ¬ b = 1001 by omega)]
theorem runPNil_core (most bytes : Int) (h : H) : SCall Go.Proofs.Try.prog [] 15 [.lst [] (.ex 0), .int .i64 most, .int .i64 bytes] none h (.ret (.lst [] .unk)) none h := by
 refine SCall.pure0 rfl ?_ (by exact ⟨⟨trivial, trivial⟩, trivial, trivial, trivial⟩) (by exact ⟨trivial, trivial⟩) h
 refine SCall.listed (fn := Go.Proofs.Try.f15) (by kernel_rfl) res15 (by kernel_rfl) (by kernel_rfl) (Nat.le_refl _) rfl (trivial) (by exact ⟨trivial, trivial⟩) ?_
 unfold rc15
 refine WR.seq (WR.reg (WQ.runS [] 1000 _ _ _ _ rfl (WQ.nilS ?_)))
 refine WR.seq (WR.seq (WR.reg (WQ.runS [] 3 _ _ _ _ rfl ?_)))
 refine WQ.callH rfl rfl rfl rfl rfl (keptNil_core most bytes _) .base rfl (WQ.runS [] 1000 _ _ _ _ rfl (WQ.nilS ?_))
 refine WR.block (WR.loop ?_)
 unfold rc15_L1
 refine WLr.of ?_
 refine WR.seq (WR.reg (WQ.runS [] 1000 _ _ _ _ rfl (WQ.nilS ?_)))
 refine WR.seq (WR.condF rfl (WR.exit ?_))
 unfold rc15_J2
 repeat (first | refine WR.seq ?_ | refine WR.block ?_ | refine WR.scope ?_ | refine WR.skip ?_ | refine WR.exit ?_ | refine WR.condT rfl ?_ | refine WR.condF rfl ?_ | refine WR.reg (WQ.runS [] 1000 _ _ _ _ rfl ?_) | refine WQ.nilS ?_ | refine WR.dreg hmix (DW.runS [] 1000 _ _ _ _ _ _ rfl ?_))
 refine WR.ret ⟨rfl, rfl, ⟨_, rfl, VLe.unk _ _⟩, fun b _ => rfl⟩
theorem runP_spec (L : List EZ) (most bytes : Int) (hL : L.length ≤ 100000) (hsz : ∀ e ∈ L, sizeZ e ≤ 1000000000) (hb1 : -9223372036854775808 ≤ bytes) (hb2 : bytes < 9223372036854775808) {h : H} {r : Nat} (hr : glim ≤ r) (hob : L ≠ [] → h.ob r = some (.cells true (flatZ L))) :
  SCall Go.Proofs.Try.prog [] 15 [clV r L, .int .i64 most, .int .i64 bytes] none h (.ret (.lst ((runP L most bytes).map encZ) .unk)) none h := by
 by_cases hne : L = []
 ·subst hne
  exact runPNil_core most bytes h
 ·rw [clV_some hne]
  exact row_lift (runP_core L most bytes hne hL hsz hb1 hb2) (by exact ⟨trivial, trivial, trivial⟩) (by exact ⟨encZs_in _, trivial⟩) hr (hob hne)
end Go.VM
end
section
/- The cache in memory; a record appended; an entry marked. -/
set_option maxRecDepth 100000
set_option linter.unusedVariables false
set_option linter.unusedSimpArgs false
namespace Go.VM
open Go.RowKit
theorem waddL {x y : Nat} (h : x ≤ 4000000000000) (h2 : y ≤ 4000000000000) : IntKind.i64.wrap ((x : Int) + (y : Int)) = ((x + y : Nat) : Int) := by rw [wrap64 (by omega) (by omega)]; omega
structure CSt where
 most : Int
 bytes : Int
 root : Int
 len : Nat
 L : List EZ
 last : Int
def encC (b r : Nat) (C : CSt) : List V := [.ptr b 0, .int .i64 C.most, .int .i64 C.bytes, .int .i64 C.root, .int .i64 (C.len : Int), clV r C.L, .int .i64 C.last]
def rowO (L : List EZ) : Obj := match L with | [] => .tok 0 | e :: l => .cells true (flatZ (e :: l))
theorem rowO_some {L : List EZ} (h : L ≠ []) : rowO L = .cells true (flatZ L) := by
 cases L with
 | nil => exact absurd rfl h
 | cons e l => rfl
def CP (d : Dk) (C : CSt) (r : Nat) : OL := [(1000, .cells false (encD d 1001)), (1001, .tok d.ws.length), (1002, .cells false (encC 1000 r C))]
def CO (d : Dk) (C : CSt) (r : Nat) : OL := CP d C r ++ [(r, rowO C.L)]
theorem CP_lt {d : Dk} {C : CSt} {r : Nat} {N : Nat} (h : 1003 ≤ N) : keysLt (CP d C r) N := by
 intro e he
 simp only [CP, List.mem_cons, List.not_mem_nil, or_false] at he
 rcases he with rfl | rfl | rfl <;> simp only <;> omega
theorem clV_in {D : Nat → Prop} {r : Nat} (L : List EZ) (h : D r) : (clV r L).In D := by
 cases L with
 | nil => exact ⟨trivial, trivial⟩
 | cons e l => exact h
theorem rowO_in {D : Nat → Prop} (L : List EZ) : (rowO L).In D := by
 cases L with
 | nil => exact trivial
 | cons e l => exact flatZ_in _
theorem encD_in {D : Nat → Prop} (d : Dk) (t : Nat) (h : D t) (h2 : glim ≤ t) : Ins D (encD d t) := ⟨trivial, trivial, trivial, trivial, trivial, ⟨Inss_map fun w _ => ⟨trivial, trivial, trivial, trivial⟩, h, h2⟩, trivial⟩
theorem CO_in {d : Dk} {C : CSt} {r N : Nat} (h : r < N) (h2 : 1003 ≤ r) : olIn (· < N) (CO d C r) :=
 ⟨encD_in d 1001 (by show 1001 < N; omega) (by decide), trivial, ⟨(by show 1000 < N; omega), trivial, trivial, trivial, trivial, clV_in _ h, trivial, trivial⟩, rowO_in _, trivial⟩
theorem CO_B {d : Dk} {C : CSt} {r N : Nat} (h : r < N) (h2 : 1003 ≤ r) : olB N (CO d C r) = true := by
 simp [CO, CP, olB]; omega
theorem CO_hd {d : Dk} {C : CSt} {r nx : Nat} {lc : LM} : HD ⟨nx, og (CO d C r), lc⟩ 1000 1001 d := ⟨by decide, by decide, by decide, rfl, rfl⟩
theorem CO_row {d : Dk} {C : CSt} {r : Nat} (h : 1003 ≤ r) : og (CO d C r) r = some (rowO C.L) := rowAt _ (CP_lt h)
theorem cacheCall {f : FuncId} {fn : Func} {rc : RC} {args : List V} {d d' : Dk} {C C' : CSt} {r r' nx nx' : Nat} {v : V} (hfn : Go.Proofs.Try.prog.funcs[f]? = some fn) (hb : fn.body.bind (resC Go.Proofs.Try.prog) = some rc) (hname : (fn.name == "runtime.NumGoroutine") = false)
  (hle : Nat.ble args.length fn.ntmps = true) (hn : nx ≤ nx') (hr : 1003 ≤ r') (hr2 : r' < nx') (hv : v.In (· < nx'))
  (hw : WR Go.Proofs.Try.prog [] ⟨fn.ntmps, none, f⟩ rc (SL.toS ⟨argT 0 args, [], none, nx, CO d C r, []⟩) (RetS Go.Proofs.Try.prog fn v nx' (CO d' C' r')) (retX (RetS Go.Proofs.Try.prog fn v nx' (CO d' C' r')))) :
  SCall Go.Proofs.Try.prog [] f args none ⟨nx, og (CO d C r), []⟩ (.ret v) none ⟨nx', og (CO d' C' r'), []⟩ :=
 SCall.listed hfn hb hname hle hn (CO_B hr2 hr) (CO_in hr2 hr) hv hw
def addP (d : Dk) (C : CSt) (s : List Nat) : Dk × CSt × Int :=
 ((write d ⟨1, C.root, s⟩).1, if (write d ⟨1, C.root, s⟩).2 = 0 then { C with len := C.len + s.length } else C, (write d ⟨1, C.root, s⟩).2)
theorem add_call {d : Dk} {a : Int} {x : List Nat} (ft : Fit d x.length) {h : H} {b t : Nat} (k : HD h b t d) :
  SCall Go.Proofs.Try.prog [] 58 [.ptr b 0, .int .i64 a, .str x] none h (.ret (.int .i64 (write d ⟨1, a, x⟩).2)) none (hd h b t (write d ⟨1, a, x⟩).1) :=
 disk_lift (append_core d a x ft) ⟨trivial, trivial, trivial⟩ trivial k
theorem addP_core (d : Dk) (C : CSt) (s : List Nat) (r nx : Nat) (hr : 1003 ≤ r) (hrn : r < nx) (ft : Fit d s.length) (hlen : C.len + s.length ≤ 4000000000) :
  SCall Go.Proofs.Try.prog [] 47 [.ptr 1002 0, .str s] none ⟨nx, og (CO d C r), []⟩ (.ret (.int .i64 (addP d C s).2.2)) none ⟨nx, og (CO (addP d C s).1 (addP d C s).2.1 r), []⟩ := by
 refine cacheCall (fn := Go.Proofs.Try.f47) (by kernel_rfl) res47 (by kernel_rfl) (by kernel_rfl) (Nat.le_refl _) hr hrn trivial ?_
 unfold rc47
 refine WR.seq (WR.reg (WQ.runS [] 1000 _ _ _ _ rfl (WQ.nilS ?_)))
 refine WR.seq (WR.dreg hmix (DW.runS [] 1000 _ _ _ _ _ _ rfl ?_))
 refine DW.callH (by repeat (first | exact .nil | refine PendR.passM rfl ?_ | refine PendR.sameM rfl ?_ | refine PendR.lightM rfl ?_)) rfl rfl rfl rfl rfl (add_call ft CO_hd) (.put (.put .base rfl) rfl) rfl (DW.runS [] 1000 _ _ _ _ _ _ rfl ?_)
 refine DW.finS (by repeat (first | exact .nil | refine PendR.passM rfl ?_ | refine PendR.sameM rfl ?_ | refine PendR.lightM rfl ?_)) ?_
 refine WR.seq (WR.seq (WR.reg (WQ.runS [] 1000 _ _ _ _ rfl (WQ.nilS ?_))))
 unfold addP
 generalize hw : write d ⟨1, C.root, s⟩ = w
 obtain ⟨d', e⟩ := w
 simp only
 by_cases he : e = 0
 ·subst he
  rw [show decide ((0 : Int) = 0) = true from rfl, if_pos rfl]
  refine WR.condT rfl (WR.reg (WQ.runS [] 7 _ _ _ _ rfl ?_))
  rw [waddL (x := C.len) (y := s.length) (by omega) (by omega)]
  refine WQ.runS [] 1000 _ _ _ _ rfl (WQ.nilS ?_)
  unfold rc47_J1
  repeat (first | refine WR.seq ?_ | refine WR.block ?_ | refine WR.scope ?_ | refine WR.skip ?_ | refine WR.exit ?_ | refine WR.condT rfl ?_ | refine WR.condF rfl ?_ | refine WR.reg (WQ.runS [] 1000 _ _ _ _ rfl ?_) | refine WQ.nilS ?_ | refine WR.dreg hmix (DW.runS [] 1000 _ _ _ _ _ _ rfl ?_))
  refine WR.ret ⟨rfl, rfl, ⟨_, rfl, VLe.refl _⟩, fun b _ => rfl⟩
 ·rw [show decide (e = 0) = false from decide_eq_false he, if_neg he]
  refine WR.condF rfl (WR.skip ?_)
  unfold rc47_J1
  repeat (first | refine WR.seq ?_ | refine WR.block ?_ | refine WR.scope ?_ | refine WR.skip ?_ | refine WR.exit ?_ | refine WR.condT rfl ?_ | refine WR.condF rfl ?_ | refine WR.reg (WQ.runS [] 1000 _ _ _ _ rfl ?_) | refine WQ.nilS ?_ | refine WR.dreg hmix (DW.runS [] 1000 _ _ _ _ _ _ rfl ?_))
  refine WR.ret ⟨rfl, rfl, ⟨_, rfl, VLe.refl _⟩, fun b _ => rfl⟩
end Go.VM
end
section
/- The cache: an entry marked. -/
set_option maxRecDepth 100000
set_option linter.unusedVariables false
set_option linter.unusedSimpArgs false
namespace Go.VM
open Go.RowKit
theorem flatZ_set2 (q : Bool) : ∀ (l : List EZ) (n : Nat) (e : EZ), l[n]? = some e → (flatZ l).set (n * 4 + 2) (.bool q) = flatZ (l.set n { e with live := q })
 | [], n, e, h => by simp at h
 | a :: l, 0, e, h => by simp at h; subst h; rfl
 | a :: l, n + 1, e, h => by
  rw [List.set_cons_succ, flatZ_cons, flatZ_cons, ← flatZ_set2 q l n e (by simpa using h), show (n + 1) * 4 + 2 = (n * 4 + 2) + 4 by omega]
  rfl
theorem flatZ_set3 (q : Int) : ∀ (l : List EZ) (n : Nat) (e : EZ), l[n]? = some e → (flatZ l).set (n * 4 + 3) (.int .i64 q) = flatZ (l.set n { e with last := q })
 | [], n, e, h => by simp at h
 | a :: l, 0, e, h => by simp at h; subst h; rfl
 | a :: l, n + 1, e, h => by
  rw [List.set_cons_succ, flatZ_cons, flatZ_cons, ← flatZ_set3 q l n e (by simpa using h), show (n + 1) * 4 + 3 = (n * 4 + 3) + 4 by omega]
  rfl
def setMark (L : List EZ) (i : Nat) (la : Int) : List EZ := match L[i]? with | some e => L.set i { e with live := true, last := la } | none => L
def marksP (d : Dk) (C : CSt) (kind i : Nat) : Dk × CSt × Int :=
 ((addP d C (markB kind i)).1, if (addP d C (markB kind i)).2.2 = 0 then { (addP d C (markB kind i)).2.1 with last := C.last + 1, L := setMark C.L i (C.last + 1) } else C, (addP d C (markB kind i)).2.2)
theorem clV_set (r : Nat) (L : List EZ) (i : Nat) (e : EZ) : clV r (L.set i e) = clV r L := by
 cases L with
 | nil => rfl
 | cons a l => cases i with
  | zero => rfl
  | succ i => simp [clV]
theorem rowO_set {L : List EZ} (h : L ≠ []) (i : Nat) (e : EZ) : rowO (L.set i e) = .cells true (flatZ (L.set i e)) := rowO_some (by simpa using h)
def cpR (d : Dk) (most bytes root : Int) (len n : Nat) (last : Int) (r : Nat) : OL := [(1000, .cells false (encD d 1001)), (1001, .tok d.ws.length), (1002, .cells false [.ptr 1000 0, .int .i64 most, .int .i64 bytes, .int .i64 root, .int .i64 (len : Int), .sl r 0 n (.op 4), .int .i64 last])]
theorem cpR_lt {d : Dk} {most bytes root last : Int} {len n r : Nat} {N : Nat} (h : 1003 ≤ N) : keysLt (cpR d most bytes root len n last r) N := by
 intro e he
 simp only [cpR, List.mem_cons, List.not_mem_nil, or_false] at he
 rcases he with rfl | rfl | rfl <;> simp only <;> omega
theorem marksP_core (d : Dk) (C : CSt) (kind i : Nat) (e : EZ) (r nx : Nat) (hr : 1003 ≤ r) (hrn : r < nx) (hk : kind < 256) (hi : i < 4000000) (he : C.L[i]? = some e) (ft : Fit d 5) (hlen : C.len + 5 ≤ 4000000000) (hla : 0 ≤ C.last ∧ C.last ≤ 4000000000) :
  SCall Go.Proofs.Try.prog [] 45 [.ptr 1002 0, .int .i64 kind, .int .i64 i] none ⟨nx, og (CO d C r), []⟩ (.ret (.int .i64 (marksP d C kind i).2.2)) none ⟨nx, og (CO (marksP d C kind i).1 (marksP d C kind i).2.1 r), []⟩ := by
 refine cacheCall (fn := Go.Proofs.Try.f45) (by kernel_rfl) res45 (by kernel_rfl) (by kernel_rfl) (Nat.le_refl _) hr hrn trivial ?_
 unfold rc45
 have hadd := addP_core d C (markB kind i) r nx hr hrn ft hlen
 refine WR.seq (WR.reg (WQ.runS [] 1000 _ _ _ _ rfl (WQ.nilS ?_)))
 refine WR.seq (WR.reg (WQ.runS [] 3 _ _ _ _ rfl ?_))
 refine WQ.callH rfl rfl rfl rfl rfl (mark_spec kind i hk (by omega) _) .base rfl ?_
 refine WQ.callH rfl rfl rfl rfl rfl hadd .base rfl (WQ.runS [] 1000 _ _ _ _ rfl (WQ.nilS ?_))
 have hfst : (marksP d C kind i).1 = (addP d C (markB kind i)).1 := rfl
 have hsnd : (marksP d C kind i).2.2 = (addP d C (markB kind i)).2.2 := rfl
 have hmid : (marksP d C kind i).2.1 = if (addP d C (markB kind i)).2.2 = 0 then { (addP d C (markB kind i)).2.1 with last := C.last + 1, L := setMark C.L i (C.last + 1) } else C := rfl
 have hC : (addP d C (markB kind i)).2.1 = if (addP d C (markB kind i)).2.2 = 0 then { C with len := C.len + 5 } else C := rfl
 rw [hfst, hsnd, hmid]
 generalize addP d C (markB kind i) = z at *
 obtain ⟨d', C', w⟩ := z
 simp only at hC ⊢
 clear hadd hfst hsnd hmid
 refine WR.seq (WR.seq (WR.reg (WQ.runS [] 1000 _ _ _ _ rfl (WQ.nilS ?_))))
 by_cases hw : w = 0
 ·subst hw
  rw [show decide ((0 : Int) = 0) = true from rfl]
  rw [if_pos rfl] at hC
  rw [if_pos rfl, hC]
  clear hC
  obtain ⟨most, bytes, root, len, L, last⟩ := C
  have he : L[i]? = some e := he
  have hil := (List.getElem?_eq_some_iff.1 he).1
  have hne : L ≠ [] := by intro h; subst h; simp at hil
  have hsm : setMark L i (last + 1) = L.set i { e with live := true, last := last + 1 } := by unfold setMark; rw [he]
  have hlast : 0 ≤ last ∧ last ≤ 4000000000 := hla
  have hcl : clV r L = .sl r 0 L.length (.op 4) := clV_some hne
  have hfin : CO d' { ({ most := most, bytes := bytes, root := root, len := len + 5, L := L, last := last } : CSt) with last := last + 1, L := setMark L i (last + 1) } r = cpR d' most bytes root (len + 5) L.length (last + 1) r ++ [(r, .cells true (flatZ (L.set i { e with live := true, last := last + 1 })))] := by
   simp only [hsm, CO, CP, encC, clV_set, rowO_set hne, hcl, cpR]
  have hst : CO d' { most := most, bytes := bytes, root := root, len := len + 5, L := L, last := last } r = cpR d' most bytes root (len + 5) L.length last r ++ [(r, .cells true (flatZ L))] := by
   simp only [CO, CP, encC, rowO_some hne, hcl, cpR]
  rw [show CO d' _ r = _ from hfin]
  rw [show CO d' _ r = _ from hst]
  have hp : ∀ la, keysLt (cpR d' most bytes root (len + 5) L.length la r) r := fun la => cpR_lt hr
  have hs2 : (L.set i { e with live := true })[i]? = some { e with live := true } := by rw [List.getElem?_set]; simp [hil]
  have hfl : (flatZ (L.set i { e with live := true })).length = L.length * 4 := by rw [flatZ_len, List.length_set]
  have hss : (L.set i { e with live := true }).set i { e with live := true, last := last + 1 } = L.set i { e with live := true, last := last + 1 } := by rw [List.set_set]
  refine WR.condT rfl (WR.seq (WR.reg (WQ.runS [] 5 _ _ _ _ rfl ?_)))
  rw [show IntKind.i64.wrap (last + 1) = last + 1 from wrap64 (by omega) (by omega)]
  refine WQ.runS [] 1000 _ _ _ _ rfl (WQ.nilS ?_)
  show WR Go.Proofs.Try.prog [] ⟨Go.Proofs.Try.f45.ntmps, none, 45⟩ _ (SL.toS ⟨_, [], none, nx, cpR d' most bytes root (len + 5) L.length (last + 1) r ++ [(r, .cells true (flatZ L))], []⟩) _ _
  refine WR.dreg hmix (DW.runS [] 14 _ _ _ _ _ _ rfl ?_)
  refine DW.pureS rfl (fun h => rowIa rfl rfl hil) rfl (DW.runS [] 1 _ _ _ _ _ _ rfl ?_)
  refine DW.stS (by repeat (first | exact .nil | refine PendR.passM rfl ?_ | refine PendR.sameM rfl ?_ | refine PendR.lightM rfl ?_)) rfl rfl (rowSt (p := cpR d' most bytes root (len + 5) L.length (last + 1) r) (N := r) (opn := true) (cs := flatZ L) (cs' := flatZ (L.set i { e with live := true })) (hp _) (by show 1000 ≤ r; omega) rfl rfl rfl (by rw [Nat.zero_add, flatZ_len]; omega) (by rw [Nat.zero_add]; exact flatZ_set2 true L i e he)) rfl ?_
  refine DW.pureS rfl (fun h => rowIa rfl rfl hil) rfl (DW.runS [] 1 _ _ _ _ _ _ rfl ?_)
  refine DW.stS (by repeat (first | exact .nil | refine PendR.passM rfl ?_ | refine PendR.sameM rfl ?_ | refine PendR.lightM rfl ?_)) rfl rfl (rowSt (p := cpR d' most bytes root (len + 5) L.length (last + 1) r) (N := r) (opn := true) (cs := flatZ (L.set i { e with live := true })) (cs' := flatZ (L.set i { e with live := true, last := last + 1 })) (hp _) (by show 1000 ≤ r; omega) rfl rfl rfl (by rw [Nat.zero_add, hfl]; omega) (by rw [Nat.zero_add, flatZ_set3 (last + 1) _ i _ hs2, hss])) rfl ?_
  refine DW.runS [] 1000 _ _ _ _ _ _ rfl ?_
  refine DW.finS (by repeat (first | exact .nil | refine PendR.passM rfl ?_ | refine PendR.sameM rfl ?_ | refine PendR.lightM rfl ?_)) ?_
  unfold rc45_J1
  repeat (first | refine WR.seq ?_ | refine WR.block ?_ | refine WR.scope ?_ | refine WR.skip ?_ | refine WR.exit ?_ | refine WR.condT rfl ?_ | refine WR.condF rfl ?_ | refine WR.reg (WQ.runS [] 1000 _ _ _ _ rfl ?_) | refine WQ.nilS ?_ | refine WR.dreg hmix (DW.runS [] 1000 _ _ _ _ _ _ rfl ?_))
  refine WR.ret ⟨rfl, rfl, ⟨_, rfl, VLe.refl _⟩, fun b _ => rfl⟩
 ·rw [show decide (w = 0) = false from decide_eq_false hw]
  rw [if_neg hw] at hC
  rw [if_neg hw, hC]
  refine WR.condF rfl (WR.skip ?_)
  unfold rc45_J1
  repeat (first | refine WR.seq ?_ | refine WR.block ?_ | refine WR.scope ?_ | refine WR.skip ?_ | refine WR.exit ?_ | refine WR.condT rfl ?_ | refine WR.condF rfl ?_ | refine WR.reg (WQ.runS [] 1000 _ _ _ _ rfl ?_) | refine WQ.nilS ?_ | refine WR.dreg hmix (DW.runS [] 1000 _ _ _ _ _ _ rfl ?_))
  refine WR.ret ⟨rfl, rfl, ⟨_, rfl, VLe.refl _⟩, fun b _ => rfl⟩
end Go.VM
end
