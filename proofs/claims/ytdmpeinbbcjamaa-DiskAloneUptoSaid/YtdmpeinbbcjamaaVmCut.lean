/- The machine of values: what no reference names may be forgotten. -/
import Derived.Test.YtdmpeinbbcjamaaVmCode
set_option linter.unusedVariables false
set_option linter.unusedSimpArgs false
namespace Go.VM
open Go.RowKit

def Env.cut (E : Env) (N : Nat) : Env where
  ob := fun b => if b < N then E.ob b else none
  fz := E.fz
  tk := fun b n => if b < N then E.tk b n else none

def Bound (E : Env) (N : Nat) : Prop := ∀ b, N ≤ b → E.ob b = none ∧ ∀ n, E.tk b n = none

theorem Bound.lt {E : Env} {N b : Nat} {p : Place} (h : Bound E N) (hb : E.ob b = some p) : b < N := by
  rcases Nat.lt_or_ge b N with g | g
  · exact g
  · have := (h b g).1; rw [this] at hb; cases hb

theorem Bound.ltk {E : Env} {N b n : Nat} {p : Place} (h : Bound E N) (hb : E.tk b n = some p) : b < N := by
  rcases Nat.lt_or_ge b N with g | g
  · exact g
  · have := (h b g).2 n; rw [this] at hb; cases hb

theorem cut_ob {E : Env} {N b : Nat} {p : Place} (h : E.ob b = some p) (hb : b < N) : (E.cut N).ob b = some p := by
  simp only [Env.cut]; rw [if_pos hb]; exact h
theorem cut_tk {E : Env} {N b n : Nat} {p : Place} (h : E.tk b n = some p) (hb : b < N) : (E.cut N).tk b n = some p := by
  simp only [Env.cut]; rw [if_pos hb]; exact h

theorem CapR.cut {E0 E : Env} {N : Nat} (hB : Bound E0 N) {c : LC} {b0 o0 z0 n0 c0 blk off z n cap : Nat} (h0 : CapR E0 c b0 o0 z0 n0 c0) (h : CapR E c blk off z n cap) : CapR (E.cut N) c blk off z n cap := by
  cases c with
  | tk id => exact cut_tk h (hB.ltk h0)
  | _ => exact h

mutual
theorem AR.cut {E0 E : Env} {N : Nat} (hB : Bound E0 N) : ∀ {v : V} {x0 x : Value}, AR E0 v x0 → AR E v x → AR (E.cut N) v x
  | .bool b, _, _, _, h => by cases h; exact .bool b
  | .int k n, _, _, _, h => by cases h; exact .int k n
  | .str s, _, _, _, h => by cases h with | str _ x h => exact .str s x h
  | .nilp, _, _, _, h => by cases h; exact .nilp
  | .ptr b o, _, _, h0, h => by cases h0 with | ptr _ _ p0 e0 => cases h with | ptr _ _ p e => exact .ptr b o p (cut_ob e (hB.lt e0))
  | .lst [] c, _, _, _, h => by cases h with | lst0 _ a cap h => exact .lst0 c a cap h
  | .lst (e :: es) c, _, _, h0, h => by
    cases h0 with
    | lst _ _ _ b0 o0 n0 c0 z0 f0 hn0 hc0 r0 => cases h with
      | lst _ _ _ blk off n cap z f hn hc hr => exact .lst e es c blk off n cap z (FZs.cut hB f0 f) hn hc (CapR.cut hB r0 hr)
  | .sl b o n c, _, _, h0, h => by
    have hb : b < N := by cases h0 with
      | sl _ _ _ p0 _ e0 => exact hB.lt e0
      | slo _ _ _ _ p0 _ e0 => exact hB.lt e0
      | sl0 _ _ _ _ _ p0 e0 => exact hB.lt e0
    cases h with
    | sl _ _ _ p c e hn => exact .sl b o n p c (cut_ob e hb) hn
    | slo _ _ _ z p c e hc hn => exact .slo b o n z p c (cut_ob e hb) hc hn
    | sl0 _ _ c a hc p e hz => exact .sl0 b o c a hc p (cut_ob e hb) hz
  | .nilm, _, _, _, h => by cases h; exact .nilm
  | .map r, _, _, h0, h => by cases h0 with | map _ p0 e0 => cases h with | map _ p e => exact .map r p (cut_ob e (hB.lt e0))
  | .fn f a c, _, _, h0, h => by
    cases h0 with
    | fn f _ _ a0 c0 ha0 hc0 => cases h with
      | fn _ _ _ a' c' ha hc => exact .fn f a c a' c' (ARs.cut hB ha0 ha) (ARs.cut hB hc0 hc)
    | yld l p0 e0 => cases h with
      | yld _ p e => exact .yld l p (cut_ob e (hB.lt e0))
  | .nilf, _, _, _, h => by cases h; exact .nilf
  | .iface t v, _, _, h0, h => by cases h0 with | iface _ _ v0 r0 => cases h with | iface _ _ v' r => exact .iface t v v' (AR.cut hB r0 r)
  | .nili, _, _, _, h => by cases h; exact .nili
  | .agg l, _, _, h0, h => by cases h0 with | agg _ c0 r0 => cases h with | agg _ cs r => exact .agg l cs (ARs.cut hB r0 r)
  | .tup l, _, _, h0, h => by cases h0 with | tup _ c0 r0 => cases h with | tup _ cs r => exact .tup l cs (ARs.cut hB r0 r)
theorem ARs.cut {E0 E : Env} {N : Nat} (hB : Bound E0 N) : ∀ {l : List V} {l0 l' : List Value}, ARs E0 l l0 → ARs E l l' → ARs (E.cut N) l l'
  | [], _, _, _, h => by cases h; exact .nil
  | v :: l, _, _, h0, h => by cases h0 with | cons _ v0 _ m0 a0 t0 => cases h with | cons _ v' _ m a t => exact .cons v v' l m (AR.cut hB a0 a) (ARs.cut hB t0 t)
theorem FZ.cut {E0 E : Env} {N : Nat} (hB : Bound E0 N) : ∀ {l : List V} {b0 o0 blk off : Nat}, FZ E0 b0 o0 l → FZ E blk off l → FZ (E.cut N) blk off l
  | [], _, _, blk, off, _, _ => .nil blk off
  | v :: l, _, _, blk, off, h0, h => by cases h0 with | cons _ _ _ v0 _ f0 c0 a0 t0 => cases h with | cons _ _ _ v' _ f c a t => exact .cons blk off v v' l f c (AR.cut hB a0 a) (FZ.cut hB t0 t)
theorem FZs.cut {E0 E : Env} {N : Nat} (hB : Bound E0 N) : ∀ {es : List (List V)} {b0 o0 z0 blk off z : Nat}, FZs E0 b0 o0 z0 es → FZs E blk off z es → FZs (E.cut N) blk off z es
  | [], _, _, _, blk, off, z, _, _ => .nil blk off z
  | e :: es, _, _, _, blk, off, z, h0, h => by cases h0 with | cons _ _ _ _ _ z0 f0 t0 => cases h with | cons _ _ _ _ _ hz f t => exact .cons blk off z e es hz (FZ.cut hB f0 f) (FZs.cut hB t0 t)
end

/-- a value names only objects below a bound. -/
def RefLt (N : Nat) (v : V) : Prop := ∀ (E : Env) (x : Value), AR E v x → AR (E.cut N) v x
def ORefLt (N : Nat) (o : Obj) : Prop := ∀ (E : Env) (p : Place) (w : World), ObjR E o p w → ObjR (E.cut N) o p w

theorem AR.refLt {E0 : Env} {N : Nat} (hB : Bound E0 N) {v : V} {x0 : Value} (h : AR E0 v x0) : RefLt N v := fun _ _ h1 => AR.cut hB h h1

theorem TR.cut {E0 E : Env} {N : Nat} (hB : Bound E0 N) {nt : Nat} {tm : TM} {t0 tmps : Array Value} (h0 : TR E0 noL nt tm t0) (h : TR E noL nt tm tmps) : TR (E.cut N) noL nt tm tmps := by
  refine ⟨h.1, fun t v hv => ?_⟩
  obtain ⟨x0, a0, r0⟩ := h0.2 t v hv
  obtain ⟨x, a, r⟩ := h.2 t v hv
  refine ⟨x, a, ?_⟩
  cases r0 with
  | v v x0 q0 => cases r with | v _ _ q => exact .v _ _ (AR.cut hB q0 q)
  | l d o p e => cases e
  | e cs b0 o0 q0 => cases r with | e _ blk off q => exact .e _ _ _ (FZ.cut hB q0 q)

theorem ADR.cut {E0 E : Env} {N : Nat} (hB : Bound E0 N) {d : AD} {d0 d' : Deferred} (h0 : ADR E0 d d0) (h : ADR E d d') : ADR (E.cut N) d d' := by
  cases h0 with
  | call f c a c0 a0 hc0 ha0 => cases h with | call _ _ _ c' a' hc ha => exact .call f c a c' a' (ARs.cut hB hc0 hc) (ARs.cut hB ha0 ha)
  | collected r p0 e0 => cases h with | collected _ p e => exact .collected r p (cut_ob e (hB.lt e0))

theorem All₂.cut {α β : Type} {R S T : α → β → Prop} (hh : ∀ a b0 b, R a b0 → S a b → T a b) : ∀ {l : List α} {m0 m : List β}, All₂ R l m0 → All₂ S l m → All₂ T l m
  | _, _, _, .nil, h => by cases h; exact .nil
  | _, _, _, .cons h0 t0, h => by cases h with | cons h t => exact .cons (hh _ _ _ h0 h) (All₂.cut hh t0 t)

theorem ObjR.cut {E0 : Env} {N : Nat} (hB : Bound E0 N) {o : Obj} {p0 : Place} {w0 : World} (h0 : ObjR E0 o p0 w0) : ORefLt N o := by
  intro E p w h
  cases o with
  | cells opn cs =>
    obtain ⟨_, _, _, _, _, _, _, _, g0⟩ := h0
    obtain ⟨c, el, lo, hi, a1, a2, a3, a4, a5⟩ := h
    refine ⟨c, el, lo, hi, a1, a2, a3, a4, fun i v hv => ?_⟩
    obtain ⟨_, x0, _, r0⟩ := g0 i v hv
    obtain ⟨q, x, b1, r⟩ := a5 i v hv
    exact ⟨q, x, b1, AR.cut hB r0 r⟩
  | map es =>
    obtain ⟨_, _, _, g0⟩ := h0
    obtain ⟨ents, clock, a1, a2⟩ := h
    exact ⟨ents, clock, a1, All₂.cut (fun _ _ _ r0 r => ⟨AR.cut hB r0.1 r.1, AR.cut hB r0.2 r.2⟩) g0 a2⟩
  | loop l =>
    obtain ⟨_, _, _, _, _, _, _, _, g0⟩ := h0
    obtain ⟨L, h1, h2, h3, h4, h5, h6, h7, h8⟩ := h
    exact ⟨L, h1, h2, h3, h4, h5, h6, h7, TR.cut hB g0 h8⟩
  | dfr c =>
    cases c with
    | none => exact h
    | some ds =>
      obtain ⟨_, _, g0⟩ := h0
      obtain ⟨c, a1, a2⟩ := h
      exact ⟨c, a1, All₂.cut (T := ADR (E.cut N)) (fun (_ : AD) _ _ r0 r => ADR.cut hB r0 r) g0 a2⟩
  | siter s pos => exact h
  | tok n => exact h

theorem RefLt.mono {N M : Nat} {v : V} (h : RefLt N v) (hl : N ≤ M) : RefLt M v := by
  intro E x r
  have hle : (E.cut N).le (E.cut M) := by
    refine ⟨fun b p hb => ?_, fun _ _ _ h => h, fun b n p hb => ?_⟩ <;> simp only [Env.cut] at hb ⊢ <;> split at hb <;> first | (rw [if_pos (by omega)]; exact hb) | cases hb
  exact (h E x r).mono hle

theorem RefLt.int {N : Nat} (k : IntKind) (n : Int) : RefLt N (.int k n) := fun _ _ h => by cases h; exact .int k n
theorem RefLt.bool {N : Nat} (b : Bool) : RefLt N (.bool b) := fun _ _ h => by cases h; exact .bool b
theorem RefLt.str {N : Nat} (s : List Nat) : RefLt N (.str s) := fun _ _ h => by cases h with | str _ x h => exact .str s x h
theorem RefLt.nilp {N : Nat} : RefLt N .nilp := fun _ _ h => by cases h; exact .nilp
theorem RefLt.nilm {N : Nat} : RefLt N .nilm := fun _ _ h => by cases h; exact .nilm
theorem RefLt.nilf {N : Nat} : RefLt N .nilf := fun _ _ h => by cases h; exact .nilf
theorem RefLt.nili {N : Nat} : RefLt N .nili := fun _ _ h => by cases h; exact .nili
theorem RefLt.ptr {N b : Nat} (o : Nat) (hb : b < N) : RefLt N (.ptr b o) := fun _ _ h => by cases h with | ptr _ _ p e => exact .ptr b o p (cut_ob e hb)
theorem RefLt.map {N b : Nat} (hb : b < N) : RefLt N (.map b) := fun _ _ h => by cases h with | map _ p e => exact .map b p (cut_ob e hb)
theorem RefLt.iface {N t : Nat} {v : V} (h : RefLt N v) : RefLt N (.iface t v) := fun _ _ r => by cases r with | iface _ _ v' r => exact .iface t v v' (h _ _ r)
theorem RefLt.sl {N b o n : Nat} {c : Cp} (hb : b < N) : RefLt N (.sl b o n c) := fun _ _ h => by
  cases h with
  | sl _ _ _ p c e hn => exact .sl b o n p c (cut_ob e hb) hn
  | slo _ _ _ z p c e hc hn => exact .slo b o n z p c (cut_ob e hb) hc hn
  | sl0 _ _ c a hc p e hz => exact .sl0 b o c a hc p (cut_ob e hb) hz

theorem ARs.refLt {N : Nat} {l : List V} (h : ∀ v ∈ l, RefLt N v) {E : Env} {l' : List Value} (r : ARs E l l') : ARs (E.cut N) l l' := by
  induction l generalizing l' with
  | nil => cases r; exact .nil
  | cons v l ih => cases r with | cons _ v' _ m a t => exact .cons _ _ _ _ (h v (List.mem_cons_self ..) _ _ a) (ih (fun v hv => h v (List.mem_cons_of_mem _ hv)) t)

theorem RefLt.agg {N : Nat} {l : List V} (h : ∀ v ∈ l, RefLt N v) : RefLt N (.agg l) := fun _ _ r => by cases r with | agg _ c r => exact .agg l c (ARs.refLt h r)
theorem RefLt.tup {N : Nat} {l : List V} (h : ∀ v ∈ l, RefLt N v) : RefLt N (.tup l) := fun _ _ r => by cases r with | tup _ c r => exact .tup l c (ARs.refLt h r)
theorem RefLt.fn {N : Nat} {f : Nat} {a c : List V} (ha : ∀ v ∈ a, RefLt N v) (hc : ∀ v ∈ c, RefLt N v) : RefLt N (.fn (.func f) a c) := fun _ _ r => by cases r with | fn _ _ _ a' c' ra rc => exact .fn f a c a' c' (ARs.refLt ha ra) (ARs.refLt hc rc)

theorem FZ.refLt {N : Nat} {E : Env} : ∀ {l : List V} {blk off : Nat}, (∀ v ∈ l, RefLt N v) → FZ E blk off l → FZ (E.cut N) blk off l
  | [], blk, off, _, _ => .nil blk off
  | v :: l, blk, off, h, r => by cases r with | cons _ _ _ v' _ f c a t => exact .cons blk off v v' l f c (h v (List.mem_cons_self ..) _ _ a) (FZ.refLt (fun v hv => h v (List.mem_cons_of_mem _ hv)) t)

theorem FZs.refLt {N : Nat} {E : Env} : ∀ {es : List (List V)} {blk off z : Nat}, (∀ e ∈ es, ∀ v ∈ e, RefLt N v) → FZs E blk off z es → FZs (E.cut N) blk off z es
  | [], blk, off, z, _, _ => .nil blk off z
  | e :: es, blk, off, z, h, r => by cases r with | cons _ _ _ _ _ hz f t => exact .cons blk off z e es hz (FZ.refLt (h e (List.mem_cons_self ..)) f) (FZs.refLt (fun e he => h e (List.mem_cons_of_mem _ he)) t)

theorem RefLt.lst {N : Nat} {es : List (List V)} {c : LC} (h : ∀ e ∈ es, ∀ v ∈ e, RefLt N v) (hc : ∀ id, c = .tk id → id < N) : RefLt N (.lst es c) := by
  intro E x r
  cases r with
  | lst0 _ a cap h => exact .lst0 c a cap h
  | lst e es _ blk off n cap z f hn hcc hr =>
    refine .lst e es c blk off n cap z (FZs.refLt h f) hn hcc ?_
    cases c with
    | tk id => exact cut_tk hr (hc id rfl)
    | _ => exact hr

/-- what lies behind a bound is forgotten. -/
theorem MR.cut {E : Env} {F : Fx} {h : H} {w0 w : World} {N : Nat} {ob : Nat → Option Obj} {lc : LM} (m : MR E F h w0 w) (hF : F.loc = noL) (hg : glim ≤ N) (hob : ∀ b, N ≤ b → ob b = none) (hob2 : ∀ b, b < N → ob b = h.ob b)
    (href : ∀ b o p, b < N → h.ob b = some o → E.ob b = some p → ORefLt N o) : MR (E.cut N) F ⟨N, ob, lc⟩ w0 w := by
  have key : ∀ b o, ob b = some o → b < N ∧ h.ob b = some o := by
    intro b o hb
    rcases Nat.lt_or_ge b N with g | g
    · exact ⟨g, by rw [← hob2 b g]; exact hb⟩
    · rw [hob b g] at hb; cases hb
  have ke : ∀ b p, (E.cut N).ob b = some p → b < N ∧ E.ob b = some p := by
    intro b p hb
    simp only [Env.cut] at hb
    split at hb
    · rename_i g; exact ⟨g, hb⟩
    · cases hb
  have kt : ∀ b n p, (E.cut N).tk b n = some p → b < N ∧ E.tk b n = some p := by
    intro b n p hb
    simp only [Env.cut] at hb
    split at hb
    · rename_i g; exact ⟨g, hb⟩
    · cases hb
  refine ⟨m.below, fun b hb => ⟨by simp only [Env.cut]; rw [if_neg (by have : N ≤ b := hb; omega)], hob b hb, fun n => by simp only [Env.cut]; rw [if_neg (by have : N ≤ b := hb; omega)]⟩, hg, fun b o hb ho => m.glb b o hb (key b o ho).2, fun b p hb hp => m.gbl b p hb (ke b p hp).2,
    m.lto, fun b o p ho hp => ?_, fun b o p hb ho hp => m.oOb b o p hb (key b o ho).2 (ke b p hp).2, m.fz, m.oFz, fun b n p ho hp => m.tok b n p (key b _ ho).2 (kt b n p hp).2, fun b n k ho hk => ?_, fun b n ho => ?_, fun d p hp => (by rw [hF] at hp; cases hp), m.prot⟩
  · obtain ⟨a, a'⟩ := key b o ho
    obtain ⟨_, c⟩ := ke b p hp
    exact href b o p a a' c E p w (m.obj b o p a' c)
  · have := m.tokn b n k (key b _ ho).2 hk
    simp only [Env.cut]
    split
    · exact this
    · rfl
  · have := m.toko b n (key b _ ho).2
    simp only [Env.cut]
    split
    · exact this
    · rfl
end Go.VM
