/- laid for this seat: VtKept2 -/
import Derived.Test.YtonlemmcdecibaaVtKept
/- What the program keeps: the latest of each key, as far as there is room. -/
set_option maxRecDepth 100000
set_option linter.unusedVariables false
set_option linter.unusedSimpArgs false
namespace Go.VM
open Go.RowKit
def kcell (x : Nat) : List V := [.int .i64 (x : Int)]
theorem ints_flat (xs : List Nat) : ints xs = (xs.map kcell).flatten := by
 induction xs with
 | nil => rfl
 | cons x xs ih => show _ :: ints xs = _; rw [ih]; rfl
def kseen (ks : List (List Nat)) : List (V × V) := ks.map fun k => (.str k, .bool true)
theorem findV_seen (k : List Nat) : ∀ ks, findV (.str k) (kseen ks) = some (if k ∈ ks then some (.bool true) else none)
 | [] => rfl
 | q :: ks => by
  show (match keyEq (.str k) (.str q) with | some true => some (some (V.bool true)) | some false => findV (.str k) (kseen ks) | none => none) = _
  have : keyEq (.str k) (.str q) = some (decide (k = q)) := rfl
  rw [this]
  by_cases h : k = q
  ·subst h; simp
  ·rw [decide_eq_false h]
   simp only
   rw [findV_seen k ks]
   simp [h]
theorem updV_seen (k : List Nat) : ∀ ks, k ∉ ks → updV (.str k) (.bool true) (kseen ks) = some (kseen (ks ++ [k]))
 | [], _ => rfl
 | q :: ks, h => by
  show (match keyEq (.str k) (.str q) with | some true => some ((V.str k, V.bool true) :: kseen ks) | some false => (updV (.str k) (.bool true) (kseen ks)).map ((V.str q, V.bool true) :: ·) | none => none) = _
  have : keyEq (.str k) (.str q) = some (decide (k = q)) := rfl
  rw [this, decide_eq_false (fun e => h (by simp [e]))]
  simp only
  rw [updV_seen k ks (fun e => h (by simp [e]))]
  rfl
def kpre (L : List EZ) (M : Nat) (ks : List (List Nat)) : OL := [(1000, .cells false [.lst (L.map encZ) .unk]), (M, .map (kseen ks))]
theorem kpre_lt {L : List EZ} {M : Nat} {ks : List (List Nat)} (h : 1001 ≤ M) : keysLt (kpre L M ks) (M + 1) := by
 intro e he
 simp only [kpre, List.mem_cons, List.mem_singleton, List.not_mem_nil, or_false] at he
 rcases he with rfl | rfl
 ·simp only; omega
 ·simp only; omega
def outK (M : Nat) : List Nat → V
 | [] => .lst [] (.ex 0)
 | x :: l => .lst ((x :: l).map kcell) (.tk (M + 1))
def tokK (M : Nat) : List Nat → OL
 | [] => []
 | _ :: l => [(M + 1, .tok (l.length + 1))]
def nxK (M : Nat) : List Nat → Nat
 | [] => M + 1
 | _ :: _ => M + 2
theorem kmap_set {L : List EZ} {M : Nat} {ks : List (List Nat)} (h : 1001 ≤ M) (ks' : List (List Nat)) (tl : OL) : osetO (kpre L M ks ++ tl) M (.map (kseen ks')) = some (kpre L M ks' ++ tl) := by
 have e : Nat.beq 1000 M = false := by
  cases hb : Nat.beq 1000 M with
  | false => rfl
  | true => exact absurd (Nat.eq_of_beq_eq_true hb) (by omega)
 simp only [kpre, List.cons_append, List.nil_append, osetO, e, Nat.beq_refl]
theorem kmap_at {L : List EZ} {M : Nat} {ks : List (List Nat)} (h : 1001 ≤ M) (tl : OL) : og (kpre L M ks ++ tl) M = some (.map (kseen ks)) := by
 simp only [kpre, List.cons_append, og_cons]
 rw [if_neg (by omega), if_pos trivial]
theorem outK_app {nt : Nat} {tm : TM} {x y : RX} {z : List V} {c : LC} {lc : LM} (L : List EZ) (M : Nat) (hM : 1001 ≤ M) (ks : List (List Nat)) (out : List Nat) (e : Nat) (hl : out.length ≤ 4000) (hx : rv [] tm x = some (outK M out)) (hy : rv [] tm y = some (.lst [[.int .i64 (e : Int)]] c)) :
  DoesR Go.Proofs.Try.prog [] nt tm ⟨nxK M out, og (kpre L M ks ++ tokK M out), lc⟩ (some (.app x y 1 8 z)) (.v (outK M (out ++ [e]))) ⟨nxK M (out ++ [e]), og (kpre L M ks ++ tokK M (out ++ [e])), lc⟩ := by
 have hk := kpre_lt (L := L) (ks := ks) hM
 cases out with
 | nil =>
  refine app_exR (es := []) (es2 := [kcell e]) (fs := [[.int .i64 (e : Int)]]) (fs2 := [[.int .i64 (e : Int)]]) (k := 0) (n2 := 1) hx hy (by simp) (by simp) (by simp) (by simp [lim]) rfl rfl rfl ?_
  have hh : osetO (kpre L M ks ++ tokK M []) (nxK M []) (.tok 1) = some (kpre L M ks ++ [(M + 1, .tok 1)]) := by
   have e1 : Nat.beq 1000 (M + 1) = false := by
    cases hb : Nat.beq 1000 (M + 1) with
    | false => rfl
    | true => exact absurd (Nat.eq_of_beq_eq_true hb) (by omega)
   have e2 : Nat.beq M (M + 1) = false := by
    cases hb : Nat.beq M (M + 1) with
    | false => rfl
    | true => exact absurd (Nat.eq_of_beq_eq_true hb) (by omega)
   simp only [kpre, tokK, nxK, List.cons_append, List.nil_append, osetO, e1, e2]
  exact hh
 | cons x l =>
  refine app_tkR (id := M + 1) (n := l.length + 1) (es := (x :: l).map kcell) (fs := [[.int .i64 (e : Int)]]) (fs2 := [[.int .i64 (e : Int)]]) (es2 := (x :: (l ++ [e])).map kcell) (n2 := (l ++ [e]).length + 1) hx hy (rowAt _ hk) (by simp) (by intro e he; obtain ⟨q, _, rfl⟩ := List.mem_map.1 he; rfl) (by simp) (by simp [lim] at hl ⊢; omega) rfl (by simp [kcell]) (by simp) (rowSet _ _ hk)
theorem muR {gl : List Nat} {nt : Nat} {tm : TM} {nx r : Nat} {ol ol' : OL} {lc : LM} {m k x : RX} {d : ED} {kv v : V} {es es' : List (V × V)} (hm : rv gl tm m = some (.map r)) (hk : rv gl tm k = some kv) (hx : rv gl tm x = some v) (hf : keyFits d kv = true) (hr : og ol r = some (.map es)) (hu : updV kv v es = some es') (ho : osetO ol r (.map es') = some ol') :
  DoesR Go.Proofs.Try.prog gl nt tm ⟨nx, og ol, lc⟩ (some (.mu m k x d)) (.v undefV) ⟨nx, og ol', lc⟩ := by
 intro o hro
 refine ⟨?_, del_nd hro rfl⟩
 have e : rac gl tm ⟨nx, og ol, lc⟩ (.mu m k x d) = some ((⟨nx, og ol, lc⟩ : H).put r (.map es')) := by
  simp only [rac, hm, hk, hx, hf, hr, hu, Option.map_some]
 have := rac_does (P := Go.Proofs.Try.prog) (nt := nt) hro e
 rw [osetO_eq ho, ← og_put]
 exact this
theorem lkR {gl : List Nat} {nt : Nat} {tm : TM} {nx r : Nat} {ol : OL} {lc : LM} {m k : RX} {z v : V} {d : ED} {kv : V} {es : List (V × V)} (hm : rv gl tm m = some (.map r)) (hk : rv gl tm k = some kv) (hf : keyFits d kv = true) (hr : og ol r = some (.map es)) (hu : findV kv es = some (some v)) :
  LightR Go.Proofs.Try.prog gl nt tm ⟨nx, og ol, lc⟩ (some (.lk m k false z d)) (.v v) := by
 refine lightX_sound ?_
 simp only [lightX, rl, hm, hk, hf, hr, hu]
 rfl
theorem lkN {gl : List Nat} {nt : Nat} {tm : TM} {nx r : Nat} {ol : OL} {lc : LM} {m k : RX} {z : V} {d : ED} {kv : V} {es : List (V × V)} (hm : rv gl tm m = some (.map r)) (hk : rv gl tm k = some kv) (hf : keyFits d kv = true) (hr : og ol r = some (.map es)) (hu : findV kv es = some none) :
  LightR Go.Proofs.Try.prog gl nt tm ⟨nx, og ol, lc⟩ (some (.lk m k false z d)) (.v z) := by
 refine lightX_sound ?_
 simp only [lightX, rl, hm, hk, hf, hr, hu]
 rfl
theorem mmR {gl : List Nat} {nt : Nat} {tm : TM} {nx : Nat} {p : OL} {lc : LM} (hp : keysLt p nx) :
  DoesR Go.Proofs.Try.prog gl nt tm ⟨nx, og (p ++ []), lc⟩ (some (.mm none)) (.v (.map nx)) ⟨nx + 1, og (p ++ [(nx, .map [])]), lc⟩ := by
 have := obj_doesR (P := Go.Proofs.Try.prog) (gl := gl) (nt := nt) (tm := tm) (h := ⟨nx, og (p ++ []), lc⟩) (ro := .mm none) (v := .map nx) (ob := .map []) (rah_objR rfl) rfl
 rw [rowNew _ hp] at this
 exact this
theorem lenK {nt : Nat} {tm : TM} {h : H} {x : RX} {M : Nat} {l : List Nat} (hx : rv [] tm x = some (outK M l)) : LightR Go.Proofs.Try.prog [] nt tm h (some (.lenL x)) (.v (.int .i64 l.length)) := by
 refine lightX_sound ?_
 cases l with
 | nil => simp only [lightX, rl, hx]; rfl
 | cons e l =>
  simp only [lightX, rl, hx, outK]
  simp
def keptG (L : List EZ) (most : Int) : List Nat → List (List Nat) → Int → List Nat → List Nat
 | [], _, _, out => out
 | i :: ys, ks, b, out => match L[i]? with
  | none => out
  | some e => if e.k ∈ ks then keptG L most ys ks b out
   else if (out.length : Int) ≥ most ∨ (sizeZ e : Int) > b then out
   else keptG L most ys (ks ++ [e.k]) (b - sizeZ e) (out ++ [i])
def l2Tm (most bytes : Int) (ys : List Nat) (M : Nat) (out : List Nat) (j : Nat) : TM := [(1, .v (.int .i64 most)), (2, .v (.int .i64 bytes)), (3, .v (.ptr 1000 0)), (6, .v (outK M out)), (10, .v (.map M)), (31, .v (.lst (ys.map kcell) .unk)), (32, .v (.int .i64 ys.length)), (33, .v (.int .i64 j))]
theorem kept_loop {QN : S → Prop} {QX : X → S → Prop} (L : List EZ) (most : Int) (hsz : ∀ e ∈ L, sizeZ e ≤ 1000000000) (ys : List Nat) (hy : ∀ x ∈ ys, x < L.length) (hyl : ys.length ≤ 4000) (M : Nat) (hM : 1001 ≤ M) : ∀ (m j : Nat) (ks : List (List Nat)) (bytes : Int) (out : List Nat), j + m = ys.length → out.length ≤ j → -9223372036854775808 ≤ bytes → bytes < 9223372036854775808 →
  (∀ tm ks' out', out' = keptG L most (ys.drop j) ks bytes out → tg tm 6 = some (.v (outK M out')) → QX (.exit 2) (SL.toS ⟨tm, [], none, nxK M out', kpre L M ks' ++ tokK M out', []⟩)) →
  WLr Go.Proofs.Try.prog [] ⟨Go.Proofs.Try.f39.ntmps, none, 39⟩ rc39_L2 (SL.toS ⟨l2Tm most bytes ys M out j, [], none, nxK M out, kpre L M ks ++ tokK M out, []⟩) QN QX := by
 intro m
 induction m with
 | zero =>
  intro j ks bytes out hj ho hb1 hb2 hx
  unfold rc39_L2
  refine WLr.of ?_
  refine WR.seq (WR.reg (WQ.runS [] 1000 _ _ _ _ rfl (WQ.nilS ?_)))
  rw [show decide ((j : Int) < (ys.length : Int)) = false from decide_eq_false (by omega)]
  refine WR.seq (WR.condF rfl (WR.exit ?_))
  refine hx _ ks out ?_ rfl
  rw [List.drop_eq_nil_iff.2 (by omega)]; rfl
 | succ m ih =>
  intro j ks bytes out hj ho hb1 hb2 hx
  have hlt : j < ys.length := by omega
  obtain ⟨i, hi⟩ : ∃ i, ys[j]? = some i := ⟨_, List.getElem?_eq_getElem hlt⟩
  obtain ⟨e, he⟩ : ∃ e, L[i]? = some e := ⟨_, List.getElem?_eq_getElem (hy i (List.mem_of_getElem? hi))⟩
  have hd : ys.drop j = i :: ys.drop (j + 1) := by
   rw [List.drop_eq_getElem_cons hlt]
   congr 1
   rw [List.getElem?_eq_getElem hlt] at hi; exact Option.some.inj hi
  rw [hd] at hx
  have g1 : (L.map encZ)[i]? = some (encZ e) := by rw [List.getElem?_map, he]; rfl
  have g0 : (ys.map kcell)[j]? = some (kcell i) := by rw [List.getElem?_map, hi]; rfl
  have hse := hsz e (List.mem_of_getElem? he)
  have hsz1 : e.k.length + e.v.length < 9223372036854775808 := by unfold sizeZ at hse; omega
  unfold rc39_L2
  refine WLr.of ?_
  refine WR.seq (WR.reg (WQ.runS [] 1000 _ _ _ _ rfl (WQ.nilS ?_)))
  rw [show decide ((j : Int) < (ys.length : Int)) = true from decide_eq_true (by omega)]
  refine WR.seq (WR.condT rfl (WR.skip ?_))
  refine WR.seq (WR.block (WR.seq (WR.reg ?_)))
  refine WQ.lightS rfl rfl rfl (ia_at rfl rfl g0 rfl) rfl (WQ.runS [] 1000 _ _ _ _ rfl (WQ.nilS ?_))
  refine WR.seq (WR.seq (WR.reg (WQ.runS [] 3 _ _ _ _ rfl ?_)))
  refine WQ.lightS rfl rfl rfl (ia_at rfl rfl g1 rfl) rfl (WQ.runS [] 2 _ _ _ _ rfl ?_)
  have hfind := findV_seen e.k ks
  by_cases hin : e.k ∈ ks
  ·rw [if_pos hin] at hfind
   refine WQ.lightS rfl rfl rfl (lkR rfl rfl rfl (kmap_at hM _) hfind) rfl (WQ.nilS ?_)
   have hs : keptG L most (i :: ys.drop (j + 1)) ks bytes out = keptG L most (ys.drop (j + 1)) ks bytes out := by simp only [keptG, he, if_pos hin]
   rw [hs] at hx
   unfold rc39_J2
   repeat (first | refine WR.seq ?_ | refine WR.block ?_ | refine WR.scope ?_ | refine WR.skip ?_ | refine WR.exit ?_ | refine WR.condT rfl ?_ | refine WR.condF rfl ?_ | refine WR.reg (WQ.runS [] 1000 _ _ _ _ rfl ?_) | refine WQ.nilS ?_ | refine WR.dreg hmix (DW.runS [] 1000 _ _ _ _ _ _ rfl ?_))
   rw [show IntKind.i64.wrap ((j : Int) + 1) = ((j + 1 : Nat) : Int) from by rw [wrap64 (by omega) (by omega)]; rfl]
   refine WIr.again (WLr.weak ?_ (ih (j + 1) ks bytes out (by omega) (by omega) hb1 hb2 hx))
   refine SW.tellR ?_ ?_
   ·repeat (first | exact .nil | refine .cons rfl (.v (VLe.refl _)) ?_ | refine .cons rfl (.l _ _ rfl) ?_ | refine .cons rfl (.v (VLe.unk _ _)) ?_)
   ·repeat (first | exact .nil | refine .cons rfl (.inl rfl) ?_)
  rw [if_neg hin] at hfind
  refine WQ.lightS rfl rfl rfl (lkN rfl rfl rfl (kmap_at hM _) hfind) rfl (WQ.nilS ?_)
  refine WR.condF rfl (WR.skip ?_)
  refine WR.seq (WR.reg (WQ.runS [] 3 _ _ _ _ rfl ?_))
  refine WQ.lightS rfl rfl rfl (ia_at rfl rfl g1 rfl) rfl (WQ.runS [] 2 _ _ _ _ rfl ?_)
  refine WQ.doesS rfl (muR rfl rfl rfl rfl (kmap_at hM _) (updV_seen e.k ks hin) (kmap_set hM _ _)) rfl (WQ.nilS ?_)
  refine WR.seq (WR.seq (WR.reg (WQ.runS [] 1 _ _ _ _ rfl ?_)))
  refine WQ.lightS rfl rfl rfl (lenK (l := out) rfl) rfl (WQ.runS [] 3 _ _ _ _ rfl ?_)
  by_cases hm : (out.length : Int) ≥ most
  ·rw [show decide ((out.length : Int) ≥ most) = true from decide_eq_true hm]
   have hs : keptG L most (i :: ys.drop (j + 1)) ks bytes out = out := by simp only [keptG, he, if_neg hin, if_pos (Or.inl hm : (out.length : Int) ≥ most ∨ (sizeZ e : Int) > bytes)]
   rw [hs] at hx
   refine WQ.runS [] 1000 _ _ _ _ rfl (WQ.nilS ?_)
   repeat (first | refine WR.seq ?_ | refine WR.block ?_ | refine WR.scope ?_ | refine WR.skip ?_ | refine WR.exit ?_ | refine WR.condT rfl ?_ | refine WR.condF rfl ?_ | refine WR.reg (WQ.runS [] 1000 _ _ _ _ rfl ?_) | refine WQ.nilS ?_ | refine WR.dreg hmix (DW.runS [] 1000 _ _ _ _ _ _ rfl ?_))
   exact hx _ _ _ rfl rfl
  rw [show decide ((out.length : Int) ≥ most) = false from decide_eq_false hm]
  refine WQ.runS [] 2 _ _ _ _ rfl ?_
  refine WQ.lightS rfl rfl rfl (ia_at rfl rfl g1 rfl) rfl (WQ.runS [] 1 _ _ _ _ rfl ?_)
  refine WQ.callH rfl rfl rfl rfl rfl (sizeP_spec e hsz1 _) .base rfl (WQ.runS [] 2 _ _ _ _ rfl ?_)
  by_cases hbb : ((e.k.length + e.v.length : Nat) : Int) > bytes
  ·rw [show decide (((e.k.length + e.v.length : Nat) : Int) > bytes) = true from decide_eq_true hbb]
   have hs : keptG L most (i :: ys.drop (j + 1)) ks bytes out = out := by simp only [keptG, he, if_neg hin, if_pos (Or.inr hbb : (out.length : Int) ≥ most ∨ (sizeZ e : Int) > bytes)]
   rw [hs] at hx
   refine WQ.runS [] 1000 _ _ _ _ rfl (WQ.nilS ?_)
   repeat (first | refine WR.seq ?_ | refine WR.block ?_ | refine WR.scope ?_ | refine WR.skip ?_ | refine WR.exit ?_ | refine WR.condT rfl ?_ | refine WR.condF rfl ?_ | refine WR.reg (WQ.runS [] 1000 _ _ _ _ rfl ?_) | refine WQ.nilS ?_ | refine WR.dreg hmix (DW.runS [] 1000 _ _ _ _ _ _ rfl ?_))
   exact hx _ _ _ rfl rfl
  rw [show decide (((e.k.length + e.v.length : Nat) : Int) > bytes) = false from decide_eq_false hbb]
  have hno : ¬ ((out.length : Int) ≥ most ∨ (sizeZ e : Int) > bytes) := fun h => h.elim hm hbb
  have hs : keptG L most (i :: ys.drop (j + 1)) ks bytes out = keptG L most (ys.drop (j + 1)) (ks ++ [e.k]) (bytes - sizeZ e) (out ++ [i]) := by simp only [keptG, he, if_neg hin, if_neg hno]
  rw [hs] at hx
  refine WQ.runS [] 1000 _ _ _ _ rfl (WQ.nilS ?_)
  refine WR.condF rfl (WR.skip ?_)
  refine WR.seq (WR.reg (WQ.runS [] 3 _ _ _ _ rfl ?_))
  refine WQ.lightS rfl rfl rfl (ia_at rfl rfl g1 rfl) rfl (WQ.runS [] 1 _ _ _ _ rfl ?_)
  refine WQ.callH rfl rfl rfl rfl rfl (sizeP_spec e hsz1 _) .base rfl (WQ.runS [] 1000 _ _ _ _ rfl (WQ.nilS ?_))
  rw [show IntKind.i64.wrap (bytes - ((e.k.length + e.v.length : Nat) : Int)) = bytes - (sizeZ e : Int) from wrap64 (by omega) (by omega)]
  refine WR.reg (WQ.runS [] 3 _ _ _ _ rfl ?_)
  refine WQ.doesS rfl (outK_app L M hM (ks ++ [e.k]) out i (by omega) rfl rfl) rfl (WQ.runS [] 1000 _ _ _ _ rfl (WQ.nilS ?_))
  unfold rc39_J2
  repeat (first | refine WR.seq ?_ | refine WR.block ?_ | refine WR.scope ?_ | refine WR.skip ?_ | refine WR.exit ?_ | refine WR.condT rfl ?_ | refine WR.condF rfl ?_ | refine WR.reg (WQ.runS [] 1000 _ _ _ _ rfl ?_) | refine WQ.nilS ?_ | refine WR.dreg hmix (DW.runS [] 1000 _ _ _ _ _ _ rfl ?_))
  rw [show IntKind.i64.wrap ((j : Int) + 1) = ((j + 1 : Nat) : Int) from by rw [wrap64 (by omega) (by omega)]; rfl]
  refine WIr.again (WLr.weak ?_ (ih (j + 1) (ks ++ [e.k]) (bytes - sizeZ e) (out ++ [i]) (by omega) (by simp; omega) (by unfold sizeZ; omega) (by unfold sizeZ; omega) hx))
  refine SW.tellR ?_ ?_
  ·repeat (first | exact .nil | refine .cons rfl (.v (VLe.refl _)) ?_ | refine .cons rfl (.l _ _ rfl) ?_ | refine .cons rfl (.v (VLe.unk _ _)) ?_)
  ·repeat (first | exact .nil | refine .cons rfl (.inl rfl) ?_)
def lastK (L : List EZ) (x : Nat) : Int := match L[x]? with | some e => e.last | none => 0
def orderF (L : List EZ) : List Nat := stableF (lastK L) (liveF L 0).length (liveF L 0)
def keptF (L : List EZ) (most bytes : Int) : List Nat := keptG L most (orderF L) [] bytes []
theorem liveF_in : ∀ (l : List EZ) (i x : Nat), x ∈ liveF l i → i ≤ x ∧ x < i + l.length
 | [], i, x, h => by cases h
 | e :: l, i, x, h => by
  unfold liveF at h
  split at h
  ·rcases List.mem_cons.1 h with rfl | h
   ·simp
   ·have := liveF_in l (i + 1) x h; simp; omega
  ·have := liveF_in l (i + 1) x h; simp; omega
theorem liveF_len : ∀ (l : List EZ) (i : Nat), (liveF l i).length ≤ l.length
 | [], _ => Nat.le_refl _
 | e :: l, i => by
  unfold liveF
  split
  ·simp; exact liveF_len l (i + 1)
  ·have := liveF_len l (i + 1); simp; omega
theorem live_good (L : List EZ) : GoodP L (liveF L 0).length (liveF L 0) := ⟨rfl, fun x hx => by have := (liveF_in L 0 x hx).2; omega⟩
theorem order_good (L : List EZ) : GoodP L (liveF L 0).length (orderF L) := (live_good L).stable _ _
theorem kcells_in {D : Nat → Prop} (l : List Nat) : Inss D (l.map kcell) := Inss_map fun x _ => ⟨trivial, trivial⟩
theorem outK_le (M : Nat) (out : List Nat) : VLe (outK M out) (.lst (out.map kcell) .unk) := by cases out <;> exact VLe.unk _ _
theorem kept_spec (L : List EZ) (most bytes : Int) (hL : L.length ≤ 4000) (hsz : ∀ e ∈ L, sizeZ e ≤ 1000000000) (hb1 : -9223372036854775808 ≤ bytes) (hb2 : bytes < 9223372036854775808) (h : H) :
  SCall Go.Proofs.Try.prog [] 39 [.lst (L.map encZ) .unk, .int .i64 most, .int .i64 bytes] none h (.ret (.lst ((keptF L most bytes).map kcell) .unk)) none h := by
 have hK : ∀ x e, L[x]? = some e → lastK L x = e.last := fun x e he => by unfold lastK; rw [he]
 refine SCall.pure0 rfl ?_ (by exact ⟨⟨encZs_in L, trivial⟩, trivial, trivial, trivial⟩) (by exact ⟨kcells_in _, trivial⟩) h
 refine SCall.listed (fn := Go.Proofs.Try.f39) (by kernel_rfl) res39 (by kernel_rfl) (by kernel_rfl) (Nat.le_refl _) rfl (trivial) (by exact ⟨kcells_in _, trivial⟩) ?_
 unfold rc39
 refine WR.seq (WR.reg (WQ.runS [3] 1000 _ _ _ _ rfl (WQ.nilS ?_)))
 refine WR.seq (WR.reg (WQ.runS [] 1000 _ _ _ _ rfl (WQ.nilS ?_)))
 refine WR.seq (WR.seq (WR.reg (WQ.runS [] 1000 _ _ _ _ rfl (WQ.nilS ?_))))
 refine WR.block (WR.loop (WLr.weak (s := SL.toS ⟨l1Tm L most bytes [] 0, [], none, nxI [], preI L ++ rowI [], []⟩) ?_ (live_loop L most bytes hL L.length 0 [] (by omega) (Nat.le_refl _) (fun tm ys hys t1 t2 t3 t6 t7 => ?_))))
 ·rw [List.length_map]
  refine SW.tellR ?_ ?_
  ·repeat (first | exact .nil | refine .cons rfl (.v (VLe.refl _)) ?_ | refine .cons rfl (.l _ _ rfl) ?_ | refine .cons rfl (.v (VLe.unk _ _)) ?_)
  ·repeat (first | exact .nil | refine .cons rfl (.inl rfl) ?_)
 have hys : ys = liveF L 0 := by rw [hys]; simp
 subst hys
 have hn := Nat.le_trans (liveF_len L 0) hL
 refine WR.weak (s := SL.toS ⟨[(1, .v (.int .i64 most)), (2, .v (.int .i64 bytes)), (3, .v (.ptr 1000 0)), (6, .v (.lst [] (.ex 0))), (7, .v (lvI (liveF L 0)))], [], none, nxI (liveF L 0), preI L ++ rowI (liveF L 0), []⟩) (SW.tellR (.cons t1 (.v (VLe.refl _)) (.cons t2 (.v (VLe.refl _)) (.cons t3 (.v (VLe.refl _)) (.cons t6 (.v (VLe.refl _)) (.cons t7 (.v (VLe.refl _)) .nil))))) .nil) ?_
 have og := order_good L
 have hlg := live_good L
 have hord : orderF L = stableF (lastK L) (liveF L 0).length (liveF L 0) := rfl
 have hkf : keptF L most bytes = keptG L most (orderF L) [] bytes [] := rfl
 rw [hkf]
 generalize orderF L = ord at *
 have hrest : ∀ (tm : TM) (nx : Nat), 1001 ≤ nx → tg tm 1 = some (.v (.int .i64 most)) → tg tm 2 = some (.v (.int .i64 bytes)) → tg tm 3 = some (.v (.ptr 1000 0)) → tg tm 6 = some (.v (.lst [] (.ex 0))) → tg tm 7 = some (.v (.lst (ord.map kcell) .unk)) →
   WR Go.Proofs.Try.prog [] ⟨Go.Proofs.Try.f39.ntmps, none, 39⟩ (.seq (.reg [⟨0, 0, some (.mm none), [], some 30, none⟩, ⟨0, 0, some (.mv (.t 30)), [], some 10, none⟩]) (.seq (.seq (.reg [⟨0, 0, some (.mv (.t 7)), [], some 31, none⟩, ⟨0, 0, some (.lenL (.t 31)), [], some 32, none⟩, ⟨0, 0, some (.mv (.c (.int .i64 0))), [], some 33, none⟩]) (.block 2 (.loop rc39_L2))) rc39_J3)) (SL.toS ⟨tm, [], none, nx, preI L ++ [], []⟩)
    (RetS Go.Proofs.Try.prog Go.Proofs.Try.f39 (.lst ((keptG L most ord [] bytes []).map kcell) .unk) 1000 []) (retX (RetS Go.Proofs.Try.prog Go.Proofs.Try.f39 (.lst ((keptG L most ord [] bytes []).map kcell) .unk) 1000 [])) := by
  intro tm nx hnx g1 g2 g3 g6 g7
  refine WR.weak (s := SL.toS ⟨[(1, .v (.int .i64 most)), (2, .v (.int .i64 bytes)), (3, .v (.ptr 1000 0)), (6, .v (.lst [] (.ex 0))), (7, .v (.lst (ord.map kcell) .unk))], [], none, nx, preI L ++ [], []⟩) (SW.tellR (.cons g1 (.v (VLe.refl _)) (.cons g2 (.v (VLe.refl _)) (.cons g3 (.v (VLe.refl _)) (.cons g6 (.v (VLe.refl _)) (.cons g7 (.v (VLe.refl _)) .nil))))) .nil) ?_
  refine WR.seq (WR.reg (WQ.doesS rfl (mmR (preI_lt hnx)) rfl (WQ.runS [] 1000 _ _ _ _ rfl (WQ.nilS ?_))))
  refine WR.seq (WR.seq (WR.reg (WQ.runS [] 1000 _ _ _ _ rfl (WQ.nilS ?_))))
  refine WR.block (WR.loop (WLr.weak (s := SL.toS ⟨l2Tm most bytes ord nx [] 0, [], none, nxK nx [], kpre L nx [] ++ tokK nx [], []⟩) ?_ (kept_loop L most hsz ord og.2 (by have := og.1; omega) nx hnx ord.length 0 [] bytes [] (by omega) (Nat.le_refl _) hb1 hb2 (fun tm ks' out' ho' h6 => ?_))))
  ·rw [List.length_map]
   refine SW.tellR ?_ ?_
   ·repeat (first | exact .nil | refine .cons rfl (.v (VLe.refl _)) ?_ | refine .cons rfl (.l _ _ rfl) ?_ | refine .cons rfl (.v (VLe.unk _ _)) ?_)
   ·repeat (first | exact .nil | refine .cons rfl (.inl rfl) ?_)
  rw [List.drop_zero] at ho'
  refine WR.weak (s := SL.toS ⟨[(6, .v (outK nx out'))], [], none, nxK nx out', kpre L nx ks' ++ tokK nx out', []⟩) (SW.tellR (.cons h6 (.v (VLe.refl _)) .nil) .nil) ?_
  unfold rc39_J3
  repeat (first | refine WR.seq ?_ | refine WR.block ?_ | refine WR.scope ?_ | refine WR.skip ?_ | refine WR.exit ?_ | refine WR.condT rfl ?_ | refine WR.condF rfl ?_ | refine WR.reg (WQ.runS [] 1000 _ _ _ _ rfl ?_) | refine WQ.nilS ?_ | refine WR.dreg hmix (DW.runS [] 1000 _ _ _ _ _ _ rfl ?_))
  refine WR.ret ⟨rfl, rfl, ⟨_, rfl, ?_⟩, fun b hb => ?_⟩
  ·rw [← ho']; exact outK_le nx out'
  ·have hb : b < 1000 := hb
   show none = VM.og (kpre L nx ks' ++ tokK nx out') b
   symm
   cases out' with
   | nil => simp only [kpre, tokK, List.cons_append, List.nil_append, og_cons]; rw [if_neg (by omega), if_neg (by omega)]; rfl
   | cons x l => simp only [kpre, tokK, List.cons_append, List.nil_append, og_cons]; rw [if_neg (by omega), if_neg (by omega), if_neg (by omega)]; rfl
 unfold rc39_J4
 refine WR.seq (WR.reg (WQ.runS [] 2 _ _ _ _ rfl ?_))
 generalize liveF L 0 = lv at *
 cases lv with
 | nil =>
  refine WQ.callH rfl rfl rfl rfl rfl (sortNil_core L) .base rfl (WQ.runS [] 1000 _ _ _ _ rfl (WQ.nilS ?_))
  have : ord = [] := List.eq_nil_of_length_eq_zero og.1
  subst this
  refine WR.weak (s := SL.toS ⟨[(1, .v (.int .i64 most)), (2, .v (.int .i64 bytes)), (3, .v (.ptr 1000 0)), (6, .v (.lst [] (.ex 0))), (7, .v (.lst [] .unk))], [], none, 1001, preI L ++ [], []⟩) ?_ (hrest _ 1001 (Nat.le_refl _) rfl rfl rfl rfl rfl)
  refine SW.tellR ?_ ?_
  ·repeat (first | exact .nil | refine .cons rfl (.v (VLe.refl _)) ?_ | refine .cons rfl (.l _ _ rfl) ?_ | refine .cons rfl (.v (VLe.unk _ _)) ?_)
  ·repeat (first | exact .nil | refine .cons rfl (.inl rfl) ?_)
 | cons x l =>
  refine WQ.callH rfl rfl rfl rfl rfl (sort_lift L (lastK L) (l.length + 1) (by simp at hn; omega) hK (x :: l) hlg (c := 1000) (r := 1001 + l.length) (by omega) (by decide) (by show 1000 ≤ _; omega) rfl (rowAt _ (preI_lt (by omega)))) (.put .base (rowSet _ _ (preI_lt (by omega)))) rfl (WQ.runS [] 1000 _ _ _ _ rfl (WQ.nilS ?_))
  rw [show stableF (lastK L) (l.length + 1) (x :: l) = ord from hord.symm]
  refine WR.weak (SW.frzR (d := 7) (es := ord.map kcell) (preI_lt (by omega)) rfl (by show 1000 ≤ _; omega) (ints_flat ord) (by intro e he; obtain ⟨q, _, rfl⟩ := List.mem_map.1 he; rfl) (by rw [List.length_map]; exact og.1) (by omega)) ?_
  exact hrest _ _ (by unfold nxI; omega) rfl rfl rfl rfl rfl
end Go.VM
