/- laid for this seat: VtSorted -/
import Derived.Test.YtonlemmcdecibaaRcRun
import Derived.Test.YtonlemmcdecibaaVmR
/- The document's order of entries. -/
set_option maxRecDepth 100000
set_option linter.unusedVariables false
set_option linter.unusedSimpArgs false
namespace Go.VM
open Go.RowKit
theorem hmix2 : Go.Proofs.Try.prog.follows .mixedOrders = true := by kernel_rfl
structure EZ where
 k : List Nat
 v : List Nat
 live : Bool
 last : Int
def encZ (e : EZ) : List V := [.str e.k, .str e.v, .bool e.live, .int .i64 e.last]
theorem size_spec (e : EZ) (h1 : e.k.length + e.v.length < 9223372036854775808) (h : H) : SCall Go.Proofs.Try.prog [] 41 [.agg (encZ e)] none h (.ret (.int .i64 ((e.k.length + e.v.length : Nat) : Int))) none h := by
 refine SCall.pure0 rfl ?_ (by exact ⟨⟨trivial, trivial, trivial, trivial, trivial⟩, trivial⟩) (by exact trivial) h
 refine SCall.listed (fn := Go.Proofs.Try.f41) (by kernel_rfl) res41 (by kernel_rfl) (by kernel_rfl) (Nat.le_refl _) rfl (trivial) trivial ?_
 unfold rc41
 refine WR.seq (WR.reg (WQ.runS [] 1000 _ _ _ _ rfl (WQ.nilS ?_)))
 refine WR.seq (WR.reg (WQ.runS [] 1000 _ _ _ _ rfl (WQ.nilS ?_)))
 rw [show IntKind.i64.wrap ((e.k.length : Int) + (e.v.length : Int)) = ((e.k.length + e.v.length : Nat) : Int) from by rw [wrap64 (by omega) (by omega)]; simp]
 refine WR.ret ⟨rfl, rfl, ⟨_, rfl, VLe.refl _⟩, fun b _ => rfl⟩
def posF (la : Int) : List EZ → Nat
 | [] => 0
 | x :: r => if x.last ≥ la then posF la r + 1 else 0
def pTm (L out : List EZ) (i j : Nat) : TM := [(0, .v (.lst (L.map encZ) .unk)), (3, .v (.lst (out.map encZ) .unk)), (4, .v (.int .i64 i)), (5, .v (.int .i64 j))]
theorem pos_loop {QN : S → Prop} {QX : X → S → Prop} {nx : Nat} (L out : List EZ) (hout : out.length ≤ 1000000) (i : Nat) (e : EZ) (he : L[i]? = some e) (hx : ∀ tm j, j = posF e.last out → tg tm 0 = some (.v (.lst (L.map encZ) .unk)) → tg tm 3 = some (.v (.lst (out.map encZ) .unk)) → tg tm 4 = some (.v (.int .i64 i)) → tg tm 5 = some (.v (.int .i64 j)) → QX (.exit 2) (SL.toS ⟨tm, [], none, nx, [], []⟩)) :
  ∀ m j, j + m = out.length → posF e.last out = j + posF e.last (out.drop j) → WLr Go.Proofs.Try.prog [] ⟨Go.Proofs.Try.f40.ntmps, none, 40⟩ rc40_L1 (SL.toS ⟨pTm L out i j, [], none, nx, [], []⟩) QN QX := by
 have g2 : (L.map encZ)[i]? = some (encZ e) := by rw [List.getElem?_map, he]; rfl
 intro m
 induction m with
 | zero =>
  intro j hj hpos
  unfold rc40_L1
  refine WLr.of ?_
  refine WR.seq (WR.seq (WR.dreg hmix2 (DW.runS [] 5 _ _ _ _ _ _ rfl ?_)))
  rw [show decide ((j : Int) < ((out.map encZ).length : Int)) = false from decide_eq_false (by rw [List.length_map]; omega)]
  refine DW.runS [] 1000 _ _ _ _ _ _ rfl ?_
  refine DW.finS (by repeat (first | exact .nil | refine PendR.passM rfl ?_ | refine PendR.sameM rfl ?_ | refine PendR.lightM rfl ?_)) ?_
  repeat (first | refine WR.seq ?_ | refine WR.block ?_ | refine WR.scope ?_ | refine WR.skip ?_ | refine WR.exit ?_ | refine WR.condT rfl ?_ | refine WR.condF rfl ?_ | refine WR.reg (WQ.runS [] 1000 _ _ _ _ rfl ?_) | refine WQ.nilS ?_ | refine WR.dreg hmix (DW.runS [] 1000 _ _ _ _ _ _ rfl ?_))
  rw [List.drop_of_length_le (by omega)] at hpos
  exact hx _ j (by simpa [posF] using hpos.symm) rfl rfl rfl rfl
 | succ m ih =>
  intro j hj hpos
  have hlt : j < out.length := by omega
  have hd : out.drop j = out[j] :: out.drop (j + 1) := List.drop_eq_getElem_cons hlt
  have g1 : (out.map encZ)[j]? = some (encZ out[j]) := by simp [hlt]
  rw [hd] at hpos
  generalize out[j] = y at *
  unfold rc40_L1
  refine WLr.of ?_
  refine WR.seq (WR.seq (WR.dreg hmix2 (DW.runS [] 5 _ _ _ _ _ _ rfl ?_)))
  rw [show decide ((j : Int) < ((out.map encZ).length : Int)) = true from decide_eq_true (by rw [List.length_map]; omega)]
  refine DW.runS [] 2 _ _ _ _ _ _ rfl ?_
  refine DW.pureS rfl (fun h => ia_at rfl rfl g1 rfl) rfl (DW.runS [] 4 _ _ _ _ _ _ rfl ?_)
  refine DW.pureS rfl (fun h => ia_at rfl rfl g2 rfl) rfl (DW.runS [] 1000 _ _ _ _ _ _ rfl ?_)
  refine DW.finS (by repeat (first | exact .nil | refine PendR.passM rfl ?_ | refine PendR.sameM rfl ?_ | refine PendR.lightM rfl ?_)) ?_
  refine WR.cond rfl (fun h1 => ?_) (fun h1 => ?_)
  ·have h1 := of_decide_eq_true h1
   refine WR.skip ?_
   repeat (first | refine WR.seq ?_ | refine WR.block ?_ | refine WR.scope ?_ | refine WR.skip ?_ | refine WR.exit ?_ | refine WR.condT rfl ?_ | refine WR.condF rfl ?_ | refine WR.reg (WQ.runS [] 1000 _ _ _ _ rfl ?_) | refine WQ.nilS ?_ | refine WR.dreg hmix (DW.runS [] 1000 _ _ _ _ _ _ rfl ?_))
   rw [show IntKind.i64.wrap ((j : Int) + 1) = ((j + 1 : Nat) : Int) from by rw [wrap64 (by omega) (by omega)]; rfl]
   refine WIr.again (WLr.weak ?_ (ih (j + 1) (by omega) (by rw [hpos]; simp only [posF]; rw [if_pos h1]; omega)))
   refine SW.tellR ?_ ?_
   ·repeat (first | exact .nil | refine .cons rfl (.v (VLe.refl _)) ?_ | refine .cons rfl (.l _ _ rfl) ?_ | refine .cons rfl (.v (VLe.unk _ _)) ?_)
   ·repeat (first | exact .nil | refine .cons rfl (.inl rfl) ?_)
  ·have h1 := of_decide_eq_false h1
   repeat (first | refine WR.seq ?_ | refine WR.block ?_ | refine WR.scope ?_ | refine WR.skip ?_ | refine WR.exit ?_ | refine WR.condT rfl ?_ | refine WR.condF rfl ?_ | refine WR.reg (WQ.runS [] 1000 _ _ _ _ rfl ?_) | refine WQ.nilS ?_ | refine WR.dreg hmix (DW.runS [] 1000 _ _ _ _ _ _ rfl ?_))
   exact hx _ j (by rw [hpos]; simp only [posF]; rw [if_neg h1]; rfl) rfl rfl rfl rfl
def insF (out : List EZ) (e : EZ) : List EZ := out.take (posF e.last out) ++ [e] ++ out.drop (posF e.last out)
def stepF (out : List EZ) (e : EZ) : List EZ := if e.live then insF out e else out
def sortF (L : List EZ) : List EZ := L.foldl stepF []
theorem posF_le (la : Int) : ∀ out : List EZ, posF la out ≤ out.length
 | [] => Nat.le_refl _
 | x :: r => by
  have := posF_le la r
  simp only [posF, List.length_cons]
  split <;> omega
theorem insF_len (out : List EZ) (e : EZ) : (insF out e).length = out.length + 1 := by
 have := posF_le e.last out
 simp [insF]; omega
theorem slc_drop {nt : Nat} {tm : TM} {h : H} {x y : RX} {k : IntKind} {n sz : Nat} {es : List (List V)} (hx : rv [] tm x = some (.lst es .unk)) (hy : rv [] tm y = some (.int k n)) (hn : n ≤ es.length) (hz : ∀ e ∈ es, e.length = sz) :
  LightR Go.Proofs.Try.prog [] nt tm h (some (.slc (.slice sz) x (some y) none none)) (.v (.lst (es.drop n) .unk)) := by
 refine lightX_sound ?_
 have h1 : rvo [] tm (some y) = some (some (.int k n)) := by simp [rvo, hy]
 have h2 : rvo [] tm none = some none := rfl
 simp only [lightX, rl, hx, h1, h2]
 have hz' : n = 0 ∨ ∀ e ∈ es, e.length = sz := .inr hz
 simp [aslice, nat?, asIdx, LC.cut, hn, hz']
 rw [List.take_of_length_le (by simp)]
theorem app_noneR {nt : Nat} {tm : TM} {h : H} {x y : RX} {sz bytes : Nat} {z : List V} {es : List (List V)} {c c2 : LC} (hx : rv [] tm x = some (.lst es c)) (hy : rv [] tm y = some (.lst [] c2)) : DoesR Go.Proofs.Try.prog [] nt tm h (some (.app x y sz bytes z)) (.v (.lst es c)) h := by
 intro o ho
 exact ⟨app_none ho hx (.lst [] c2 hy (fun e h => by cases h)), nd_of ho rfl⟩
def oTm (L out : List EZ) (i : Nat) : TM := [(0, .v (.lst (L.map encZ) .unk)), (3, .v (.lst (out.map encZ) .unk)), (4, .v (.int .i64 i))]
theorem encZ_len {l : List EZ} : ∀ e ∈ l.map encZ, e.length = 4 := by
 intro e he
 obtain ⟨x, _, rfl⟩ := List.mem_map.1 he; rfl
theorem sorted_loop {QN : S → Prop} {QX : X → S → Prop} (L : List EZ) (hL : L.length ≤ 4000) : ∀ (m i nx : Nat) (out : List EZ), i + m = L.length → out.length ≤ i →
  (∀ tm nx', tg tm 3 = some (.v (.lst (((L.drop i).foldl stepF out).map encZ) .unk)) → QX (.exit 0) (SL.toS ⟨tm, [], none, nx', [], []⟩)) →
  WLr Go.Proofs.Try.prog [] ⟨Go.Proofs.Try.f40.ntmps, none, 40⟩ rc40_L2 (SL.toS ⟨oTm L out i, [], none, nx, [], []⟩) QN QX := by
 intro m
 induction m with
 | zero =>
  intro i nx out hi ho hx
  unfold rc40_L2
  refine WLr.of ?_
  refine WR.seq (WR.seq (WR.reg (WQ.runS [] 1000 _ _ _ _ rfl (WQ.nilS ?_))))
  rw [show decide ((i : Int) < ((L.map encZ).length : Int)) = false from decide_eq_false (by rw [List.length_map]; omega)]
  repeat (first | refine WR.seq ?_ | refine WR.block ?_ | refine WR.scope ?_ | refine WR.skip ?_ | refine WR.exit ?_ | refine WR.condT rfl ?_ | refine WR.condF rfl ?_ | refine WR.reg (WQ.runS [] 1000 _ _ _ _ rfl ?_) | refine WQ.nilS ?_ | refine WR.dreg hmix (DW.runS [] 1000 _ _ _ _ _ _ rfl ?_))
  rw [List.drop_of_length_le (by omega)] at hx
  exact hx _ _ rfl
 | succ m ih =>
  intro i nx out hi ho hx
  have hlt : i < L.length := by omega
  obtain ⟨e, he⟩ : ∃ e, L[i]? = some e := ⟨_, List.getElem?_eq_getElem hlt⟩
  have g1 : (L.map encZ)[i]? = some (encZ e) := by rw [List.getElem?_map, he]; rfl
  have hd : L.drop i = e :: L.drop (i + 1) := by rw [List.drop_eq_getElem_cons hlt]; congr; exact Option.some.inj ((List.getElem?_eq_getElem hlt).symm.trans he)
  rw [hd, List.foldl_cons] at hx
  unfold rc40_L2
  refine WLr.of ?_
  refine WR.seq (WR.seq (WR.reg (WQ.runS [] 1000 _ _ _ _ rfl (WQ.nilS ?_))))
  rw [show decide ((i : Int) < ((L.map encZ).length : Int)) = true from decide_eq_true (by rw [List.length_map]; omega)]
  refine WR.condT rfl (WR.skip ?_)
  refine WR.seq (WR.block (WR.seq (WR.seq (WR.reg (WQ.runS [] 2 _ _ _ _ rfl ?_)))))
  refine WQ.lightS rfl rfl rfl (ia_at rfl rfl g1 rfl) rfl (WQ.runS [] 1000 _ _ _ _ rfl (WQ.nilS ?_))
  cases hlive : e.live with
  | false =>
   have hs : stepF out e = out := by simp [stepF, hlive]
   rw [hs] at hx
   rw [show (encZ e) = [.str e.k, .str e.v, .bool false, .int .i64 e.last] from by simp [encZ, hlive]]
   repeat (first | refine WR.seq ?_ | refine WR.block ?_ | refine WR.scope ?_ | refine WR.skip ?_ | refine WR.exit ?_ | refine WR.condT rfl ?_ | refine WR.condF rfl ?_ | refine WR.reg (WQ.runS [] 1000 _ _ _ _ rfl ?_) | refine WQ.nilS ?_ | refine WR.dreg hmix (DW.runS [] 1000 _ _ _ _ _ _ rfl ?_))
   rw [show IntKind.i64.wrap ((i : Int) + 1) = ((i + 1 : Nat) : Int) from by rw [wrap64 (by omega) (by omega)]; rfl]
   refine WIr.again (WLr.weak ?_ (ih (i + 1) nx out (by omega) (by omega) hx))
   refine SW.tellR ?_ ?_
   ·repeat (first | exact .nil | refine .cons rfl (.v (VLe.refl _)) ?_ | refine .cons rfl (.l _ _ rfl) ?_ | refine .cons rfl (.v (VLe.unk _ _)) ?_)
   ·repeat (first | exact .nil | refine .cons rfl (.inl rfl) ?_)
  | true =>
   have hs : stepF out e = insF out e := by simp [stepF, hlive]
   rw [hs] at hx
   rw [show (encZ e) = [.str e.k, .str e.v, .bool true, .int .i64 e.last] from by simp [encZ, hlive]]
   refine WR.condF rfl (WR.skip ?_)
   refine WR.seq (WR.reg (WQ.runS [] 1000 _ _ _ _ rfl (WQ.nilS ?_)))
   refine WR.seq (WR.block (WR.loop (WLr.weak (s := SL.toS ⟨pTm L out i 0, [], none, nx, [], []⟩) ?_ (pos_loop L out (by omega) i e he (fun tm p hp t0 t3 t4 t5 => ?_) out.length 0 (by omega) (by simp)))))
   ·refine SW.tellR ?_ ?_
    ·repeat (first | exact .nil | refine .cons rfl (.v (VLe.refl _)) ?_ | refine .cons rfl (.l _ _ rfl) ?_ | refine .cons rfl (.v (VLe.unk _ _)) ?_)
    ·repeat (first | exact .nil | refine .cons rfl (.inl rfl) ?_)
   refine WR.weak (s := SL.toS ⟨pTm L out i p, [], none, nx, [], []⟩) (SW.tellR (.cons t0 (.v (VLe.refl _)) (.cons t3 (.v (VLe.refl _)) (.cons t4 (.v (VLe.refl _)) (.cons t5 (.v (VLe.refl _)) .nil)))) .nil) ?_
   have hple : p ≤ out.length := by rw [hp]; exact posF_le _ _
   have hins : insF out e = out.take p ++ [e] ++ out.drop p := by rw [hp]; rfl
   have hinsL : (insF out e).length = out.length + 1 := insF_len out e
   have hins2 : (insF out e).map encZ = (out.map encZ).take p ++ [encZ e] ++ (out.map encZ).drop p := by rw [hins]; simp [List.map_take, List.map_drop]
   have hlm : (out.map encZ).length = out.length := List.length_map ..
   have hcl : ∀ l : List EZ, (l.map encZ).map (·.map V.clean1) = l.map encZ := by
    intro l; rw [List.map_map]; congr
   unfold rc40_J1
   refine WR.dreg hmix2 (DW.runS [] 3 _ _ _ _ _ _ rfl ?_)
   refine DW.pureS rfl (fun h => slc_take rfl rfl (by rw [hlm]; exact hple)) rfl (DW.runS [] 2 _ _ _ _ _ _ rfl ?_)
   refine DW.pureS rfl (fun h => ia_at rfl rfl g1 rfl) rfl (DW.runS [] 4 _ _ _ _ _ _ rfl ?_)
   refine DW.pureS rfl (fun h => slc_drop rfl rfl (by rw [hlm]; exact hple) encZ_len) rfl ?_
   have hk0 : keysLt [] nx := fun e h => by cases h
   have hone : ∀ x ∈ [[V.str e.k, V.str e.v, V.bool e.live, V.int .i64 e.last]], x.length = 4 := fun x hx => by simp at hx; subst hx; rfl
   have fin : ∀ (tm : TM) (n : Nat), tg tm 0 = some (.v (.lst (L.map encZ) .unk)) → tg tm 3 = some (.v (.lst ((insF out e).map encZ) (.tk nx))) → tg tm 4 = some (.v (.int .i64 i)) →
     WR Go.Proofs.Try.prog [] ⟨Go.Proofs.Try.f40.ntmps, none, 40⟩ rc40_J2 (SL.toS ⟨tm, [], none, nx + 1, [(nx, .tok n)], []⟩) (fun s1 => WIr Go.Proofs.Try.prog [] ⟨Go.Proofs.Try.f40.ntmps, none, 40⟩ rc40_L2 s1 QN QX) QX := by
    intro tm n t0 t3 t4
    refine WR.weak (s := SL.toS ⟨oTm L (insF out e) i, [], none, nx + 1, [] ++ [], []⟩) (SW.trans (SW.tellR (tm2 := oTm L (insF out e) i) (lc2 := []) (.cons t0 (.v (VLe.refl _)) (.cons t3 (.v (VLe.unk _ _)) (.cons t4 (.v (VLe.refl _)) .nil))) .nil) (SW.drop (p := []) hk0)) ?_
    unfold rc40_J2
    repeat (first | refine WR.seq ?_ | refine WR.block ?_ | refine WR.scope ?_ | refine WR.skip ?_ | refine WR.exit ?_ | refine WR.condT rfl ?_ | refine WR.condF rfl ?_ | refine WR.reg (WQ.runS [] 1000 _ _ _ _ rfl ?_) | refine WQ.nilS ?_ | refine WR.dreg hmix (DW.runS [] 1000 _ _ _ _ _ _ rfl ?_))
    rw [show IntKind.i64.wrap ((i : Int) + 1) = ((i + 1 : Nat) : Int) from by rw [wrap64 (by omega) (by omega)]; rfl]
    refine WIr.again (WLr.weak ?_ (ih (i + 1) (nx + 1) (insF out e) (by omega) (by omega) hx))
    refine SW.tellR ?_ ?_
    ·repeat (first | exact .nil | refine .cons rfl (.v (VLe.refl _)) ?_ | refine .cons rfl (.l _ _ rfl) ?_ | refine .cons rfl (.v (VLe.unk _ _)) ?_)
    ·repeat (first | exact .nil | refine .cons rfl (.inl rfl) ?_)
   rcases Nat.eq_zero_or_pos p with h0 | h0
   ·have ht : (out.map encZ).take p = [] := by rw [h0]; rfl
    rw [ht] at hins2 ⊢
    refine DW.doesS (by repeat (first | exact .nil | refine PendR.passM rfl ?_ | refine PendR.sameM rfl ?_ | refine PendR.lightM rfl ?_)) rfl (app_noneR rfl rfl) rfl ?_
    refine DW.doesS (by repeat (first | exact .nil | refine PendR.passM rfl ?_ | refine PendR.sameM rfl ?_ | refine PendR.lightM rfl ?_)) rfl (app_exR (k := 0) (n2 := 1) (fs2 := [encZ e]) (es2 := [encZ e]) rfl rfl (by simp) (fun e h => by cases h) hone (by simp [lim]) rfl rfl rfl rfl) rfl ?_
    refine DW.doesS (by repeat (first | exact .nil | refine PendR.passM rfl ?_ | refine PendR.sameM rfl ?_ | refine PendR.lightM rfl ?_)) rfl (app_tkR (id := nx) (n := 1) (n2 := 1 + (out.drop p).length) (fs2 := (out.map encZ).drop p) (es2 := (insF out e).map encZ) rfl rfl (rowAt (p := []) _ hk0) rfl hone (fun x hx => encZ_len x (List.mem_of_mem_drop hx)) (by simp [lim]; omega) (by rw [← List.map_drop]; exact hcl _) hins2.symm (by simp) (rowSet (p := []) _ _ hk0)) rfl ?_
    refine DW.runS [] 1000 _ _ _ _ _ _ rfl ?_
    refine DW.finS (by repeat (first | exact .nil | refine PendR.passM rfl ?_ | refine PendR.sameM rfl ?_ | refine PendR.lightM rfl ?_)) ?_
    exact fin _ _ rfl rfl rfl
   ·refine DW.doesS (by repeat (first | exact .nil | refine PendR.passM rfl ?_ | refine PendR.sameM rfl ?_ | refine PendR.lightM rfl ?_)) rfl (app_exR (k := 0) (n2 := p) (fs2 := (out.map encZ).take p) (es2 := (out.map encZ).take p) rfl rfl (by simp; omega) (fun e h => by cases h) (fun x hx => encZ_len x (List.mem_of_mem_take hx)) (by simp [lim]; omega) (by rw [← List.map_take]; exact hcl _) rfl (by simp; omega) rfl) rfl ?_
    refine DW.doesS (by repeat (first | exact .nil | refine PendR.passM rfl ?_ | refine PendR.sameM rfl ?_ | refine PendR.lightM rfl ?_)) rfl (app_tkR (id := nx) (n := p) (n2 := p + 1) (fs2 := [encZ e]) (es2 := (out.map encZ).take p ++ [encZ e]) rfl rfl (rowAt (p := []) _ hk0) (by simp; omega) (fun x hx => encZ_len x (List.mem_of_mem_take hx)) hone (by simp [lim]; omega) rfl rfl (by simp; omega) (rowSet (p := []) _ _ hk0)) rfl ?_
    refine DW.doesS (by repeat (first | exact .nil | refine PendR.passM rfl ?_ | refine PendR.sameM rfl ?_ | refine PendR.lightM rfl ?_)) rfl (app_tkR (id := nx) (n := p + 1) (n2 := p + 1 + (out.drop p).length) (fs2 := (out.map encZ).drop p) (es2 := (insF out e).map encZ) rfl rfl (rowAt (p := []) _ hk0) (by simp; omega) (fun x hx => by
     rcases List.mem_append.1 hx with h | h
     ·exact encZ_len x (List.mem_of_mem_take h)
     ·simp at h; subst h; rfl) (fun x hx => encZ_len x (List.mem_of_mem_drop hx)) (by simp [lim]; omega) (by rw [← List.map_drop]; exact hcl _) hins2.symm (by simp; omega) (rowSet (p := []) _ _ hk0)) rfl ?_
    refine DW.runS [] 1000 _ _ _ _ _ _ rfl ?_
    refine DW.finS (by repeat (first | exact .nil | refine PendR.passM rfl ?_ | refine PendR.sameM rfl ?_ | refine PendR.lightM rfl ?_)) ?_
    exact fin _ _ rfl rfl rfl
theorem encZs_in {D : Nat → Prop} (l : List EZ) : Inss D (l.map encZ) := Inss_map fun x _ => ⟨trivial, trivial, trivial, trivial, trivial⟩
theorem sorted_spec (L : List EZ) (hL : L.length ≤ 4000) (h : H) : SCall Go.Proofs.Try.prog [] 40 [.lst (L.map encZ) .unk] none h (.ret (.lst ((sortF L).map encZ) .unk)) none h := by
 refine SCall.pure0 rfl ?_ (by exact ⟨⟨encZs_in L, trivial⟩, trivial⟩) (by exact ⟨encZs_in _, trivial⟩) h
 refine SCall.listed (fn := Go.Proofs.Try.f40) (by kernel_rfl) res40 (by kernel_rfl) (by kernel_rfl) (Nat.le_refl _) rfl (trivial) (by exact ⟨encZs_in _, trivial⟩) ?_
 unfold rc40
 refine WR.seq (WR.reg (WQ.runS [] 1000 _ _ _ _ rfl (WQ.nilS ?_)))
 refine WR.seq (WR.reg (WQ.runS [] 1000 _ _ _ _ rfl (WQ.nilS ?_)))
 refine WR.seq (WR.seq (WR.reg (WQ.runS [] 1000 _ _ _ _ rfl (WQ.nilS ?_))))
 refine WR.block (WR.loop (WLr.weak (s := SL.toS ⟨oTm L [] 0, [], none, 1000, [], []⟩) ?_ (sorted_loop L hL L.length 0 1000 [] (by omega) (Nat.le_refl _) (fun tm nx' h3 => ?_))))
 ·refine SW.tellR ?_ ?_
  ·exact .cons rfl (.v (VLe.refl _)) (.cons rfl (.v (VLe.unk _ _)) (.cons rfl (.v (VLe.refl _)) .nil))
  ·exact .nil
 refine WR.weak (s := SL.toS ⟨[(3, .v (.lst ((sortF L).map encZ) .unk))], [], none, nx', [], []⟩) (SW.tellR (.cons h3 (.v (VLe.refl _)) .nil) .nil) ?_
 unfold rc40_J3
 repeat (first | refine WR.seq ?_ | refine WR.block ?_ | refine WR.scope ?_ | refine WR.skip ?_ | refine WR.exit ?_ | refine WR.condT rfl ?_ | refine WR.condF rfl ?_ | refine WR.reg (WQ.runS [] 1000 _ _ _ _ rfl ?_) | refine WQ.nilS ?_ | refine WR.dreg hmix (DW.runS [] 1000 _ _ _ _ _ _ rfl ?_))
 refine WR.ret ⟨rfl, rfl, ⟨_, rfl, VLe.refl _⟩, fun b _ => rfl⟩
end Go.VM
