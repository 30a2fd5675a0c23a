/- The machine of values: a call over few objects is a call over any memory that holds such: the frame. -/
import Derived.Test.YtdmpeinbbcjamaaVmFrame
set_option linter.unusedVariables false
set_option linter.unusedSimpArgs false
namespace Go.VM
open Go.RowKit
open Classical

/-- how a small memory stands in another. -/
structure Foot (ρ : Nat → Nat) (hc h : H) : Prop where
  low : ∀ i, i < glim → ρ i = i
  big : ∀ i, glim ≤ i → i < hc.nxt → glim ≤ ρ i
  new : ∀ i, hc.nxt ≤ i → ρ i = h.nxt + (i - hc.nxt)
  inj : ∀ i j, i < hc.nxt → j < hc.nxt → (hc.ob i).isSome = true → (hc.ob j).isSome = true → ρ i = ρ j → i = j
  glo : glim ≤ hc.nxt
  top : ∀ i, hc.nxt ≤ i → hc.ob i = none
  obj : ∀ i o, hc.ob i = some o → h.ob (ρ i) = some (o.ren ρ)
  ref : ∀ i o, hc.ob i = some o → o.In fun j => j < glim ∨ (hc.ob j).isSome = true

/-- the number in the small memory, of those that are its own or are made by the call. -/
noncomputable def inv (ρ : Nat → Nat) (hc : H) (b : Nat) : Option Nat :=
  if h : ∃ i, ((hc.ob i).isSome = true ∨ hc.nxt ≤ i) ∧ ρ i = b then some h.choose else none

/-- what becomes of the large memory. -/
noncomputable def mrg (ρ : Nat → Nat) (hc h hc' : H) : H where
  nxt := h.nxt + (hc'.nxt - hc.nxt)
  ob := fun b => match inv ρ hc b with
    | some i => (hc'.ob i).map (Obj.ren ρ)
    | none => h.ob b
  lc := h.lc

section
variable {ρ : Nat → Nat} {hc h : H}

theorem Foot.lt (ft : Foot ρ hc h) {i : Nat} (hi : (hc.ob i).isSome = true) : i < hc.nxt := by
  rcases Nat.lt_or_ge i hc.nxt with g | g
  · exact g
  · rw [ft.top i g] at hi; cases hi

theorem inv_spec {b i : Nat} (h' : inv ρ hc b = some i) : ((hc.ob i).isSome = true ∨ hc.nxt ≤ i) ∧ ρ i = b := by
  unfold inv at h'
  split at h'
  · rename_i hx; cases h'; exact hx.choose_spec
  · cases h'

/-- if the large memory's objects are below its bound. -/
theorem inv_of (ft : Foot ρ hc h) (hb : ∀ i, (hc.ob i).isSome = true → ρ i < h.nxt) {i : Nat} (hi : (hc.ob i).isSome = true ∨ hc.nxt ≤ i) : inv ρ hc (ρ i) = some i := by
  unfold inv
  have hx : ∃ j, ((hc.ob j).isSome = true ∨ hc.nxt ≤ j) ∧ ρ j = ρ i := ⟨i, hi, rfl⟩
  rw [dif_pos hx]
  obtain ⟨h1, h2⟩ := hx.choose_spec
  generalize hx.choose = j at h1 h2
  congr 1
  rcases h1 with h1 | h1
  · rcases hi with hi | hi
    · exact ft.inj j i (ft.lt h1) (ft.lt hi) h1 hi h2
    · have := hb j h1; rw [h2, ft.new i hi] at this; omega
  · rcases hi with hi | hi
    · have := hb i hi; rw [← h2, ft.new j h1] at this; omega
    · rw [ft.new i hi, ft.new j h1] at h2; omega

variable {E : Env} {F : Fx} {w0 w : World}

/-- what is known of addresses, to the small memory. -/
noncomputable def envIn (ρ : Nat → Nat) (hc : H) (E : Env) : Env where
  ob := fun i => if i < glim ∨ (hc.ob i).isSome = true then E.ob (ρ i) else none
  fz := E.fz
  tk := fun i n => if i < glim ∨ (hc.ob i).isSome = true then E.tk (ρ i) n else none

def TokAt (h : H) (E : Env) (b B : Nat) (p : Place) : Prop := ∃ n, h.ob b = some (Obj.tok n) ∧ E.tk b n = some p ∧ p.blk = B

theorem TokAt.one {b B : Nat} {p q : Place} (hp : TokAt h E b B p) (hq : TokAt h E b B q) : p = q := by
  obtain ⟨n, h1, h2, _⟩ := hp
  obtain ⟨n', h3, h4, _⟩ := hq
  rw [h1] at h3
  cases h3
  rw [h2] at h4
  exact Option.some.inj h4

/-- what lies frozen in a block that may be appended to, ends here. -/
noncomputable def tokB (h : H) (E : Env) (w : World) (b B : Nat) : Nat :=
  if hx : ∃ p, TokAt h E b B p then hx.choose.off else match w.heap[B]? with | some (.cells c _ _) => c.size | _ => 0

theorem tokB_at {b B : Nat} {p : Place} (hp : TokAt h E b B p) : tokB h E w b B = p.off := by
  unfold tokB
  rw [dif_pos ⟨p, hp⟩]
  have hx : ∃ p, TokAt h E b B p := ⟨p, hp⟩
  rw [hx.choose_spec.one hp]

/-- who has a block, to the small memory: what is not its own is protected. -/
noncomputable def ownIn (ρ : Nat → Nat) (hc h : H) (E : Env) (F : Fx) (w : World) (B : Nat) : Own :=
  match F.own B with
  | .ob b => match inv ρ hc b with
    | some i => .ob i
    | none => .pr none
  | .tk b => match inv ρ hc b with
    | some i => .tk i
    | none => .pr (some (tokB h E w b B))
  | x => x

noncomputable def protIn (ρ : Nat → Nat) (hc h : H) (E : Env) (F : Fx) (w : World) (B : Nat) : Option (Go.Obj × Option Nat) :=
  match F.own B with
  | .ob b => match inv ρ hc b with
    | some _ => none
    | none => (w.heap[B]?).map (·, none)
  | .tk b => match inv ρ hc b with
    | some _ => none
    | none => (w.heap[B]?).map (·, some (tokB h E w b B))
  | _ => F.prot B

noncomputable def fxIn (ρ : Nat → Nat) (hc h : H) (E : Env) (F : Fx) (w : World) : Fx := ⟨noL, protIn ρ hc h E F w, ownIn ρ hc h E F w⟩

theorem foot_lt (ft : Foot ρ hc h) (m : MR E F h w0 w) : ∀ i, (hc.ob i).isSome = true → ρ i < h.nxt := by
  intro i hi
  cases hq : hc.ob i with
  | none => rw [hq] at hi; cases hi
  | some o => exact m.nxt_of (ft.obj i o hq)

theorem into_in (ft : Foot ρ hc h) : Into ρ (fun j => j < glim ∨ (hc.ob j).isSome = true) E (envIn ρ hc E) := by
  refine ⟨fun i p hi hp => ?_, fun i n p hi _ hp => ?_, fun _ _ _ h => h⟩
  · simp only [envIn]; rw [if_pos hi]; exact hp
  · simp only [envIn]; rw [if_pos hi]; exact hp

theorem own_ob (ft : Foot ρ hc h) (m : MR E F h w0 w) {B i : Nat} (hi : (hc.ob i).isSome = true) (ho : F.own B = .ob (ρ i)) : ownIn ρ hc h E F w B = .ob i := by
  simp only [ownIn, ho, inv_of ft (foot_lt ft m) (.inl hi)]
theorem own_tk (ft : Foot ρ hc h) (m : MR E F h w0 w) {B i : Nat} (hi : (hc.ob i).isSome = true) (ho : F.own B = .tk (ρ i)) : ownIn ρ hc h E F w B = .tk i := by
  simp only [ownIn, ho, inv_of ft (foot_lt ft m) (.inl hi)]

theorem env_ob {i : Nat} {p : Place} (hp : (envIn ρ hc E).ob i = some p) : (i < glim ∨ (hc.ob i).isSome = true) ∧ E.ob (ρ i) = some p := by
  simp only [envIn] at hp
  split at hp
  · rename_i g; exact ⟨g, hp⟩
  · cases hp
theorem env_tk {i n : Nat} {p : Place} (hp : (envIn ρ hc E).tk i n = some p) : (i < glim ∨ (hc.ob i).isSome = true) ∧ E.tk (ρ i) n = some p := by
  simp only [envIn] at hp
  split at hp
  · rename_i g; exact ⟨g, hp⟩
  · cases hp

theorem MR.into (ft : Foot ρ hc h) (m : MR E F h w0 w) : MR (envIn ρ hc E) (fxIn ρ hc h E F w) hc w0 w := by
  have hI := into_in (E := E) ft
  refine ⟨m.below, fun b hb => ?_, ft.glo, fun b o hb ho => ?_, fun b p hb hp => ?_, fun B hB => ?_, fun b o p ho hp => ?_, fun b o p hg ho hp => ?_, m.fz, fun B i v hf hB => ?_, fun b n p ho hp => ?_, fun b n k ho hk => ?_, fun b n ho => ?_, fun d p hp => (by cases hp), fun B x hx => ?_⟩
  · have h1 : ¬ (b < glim ∨ (hc.ob b).isSome = true) := by
      have := ft.glo
      rw [ft.top b hb]
      simp; omega
    refine ⟨by simp only [envIn]; rw [if_neg h1], ft.top b hb, fun n => by simp only [envIn]; rw [if_neg h1]⟩
  · have h1 := ft.obj b o ho
    rw [ft.low b hb] at h1
    obtain ⟨op, cs, e⟩ := m.glb b _ hb h1
    cases o with
    | cells op cs => exact ⟨op, cs, rfl⟩
    | _ => cases e
  · obtain ⟨_, h2⟩ := env_ob hp
    rw [ft.low b hb] at h2
    exact m.gbl b p hb h2
  · refine m.lto B fun e => hB ?_
    show ownIn ρ hc h E F w B = .no
    simp only [ownIn, e]
  · obtain ⟨_, h2⟩ := env_ob hp
    exact ObjR.into hI (ft.ref b o ho) (m.obj _ _ p (ft.obj b o ho) h2)
  · obtain ⟨_, h2⟩ := env_ob hp
    have hs : (hc.ob b).isSome = true := by rw [ho]; rfl
    obtain ⟨a1, a2⟩ := m.oOb _ _ p (ft.big b hg (ft.lt hs)) (ft.obj b o ho) h2
    exact ⟨own_ob ft m hs a1, a2⟩
  · show ownIn ρ hc h E F w B = .fz ∨ (∃ b, ownIn ρ hc h E F w B = .tk b) ∨ ∃ k, ownIn ρ hc h E F w B = .pr (some k) ∧ i < k
    rcases m.oFz B i v hf hB with a | ⟨b, a⟩ | ⟨k, a, ak⟩
    · left; simp only [ownIn, a]
    · simp only [ownIn, a]
      cases hq : inv ρ hc b with
      | some j => exact .inr (.inl ⟨j, rfl⟩)
      | none =>
        refine .inr (.inr ⟨_, rfl, ?_⟩)
        unfold tokB
        split
        · rename_i hx
          obtain ⟨n, h1, h2, h3⟩ := hx.choose_spec
          rcases Nat.lt_or_ge i hx.choose.off with g | g
          · exact g
          · obtain ⟨_, _, _, a4⟩ := m.tok b n _ h1 h2
            have := a4 i g
            have hf' : E.fz B i = some v := hf
            rw [h3, hf'] at this
            cases this
        · obtain ⟨c, el, q, h1, h2⟩ := m.fz B i v hf
          rw [h1]
          exact (Array.getElem?_eq_some_iff.1 h2).1
    · exact .inr (.inr ⟨k, by simp only [ownIn, a], ak⟩)
  · obtain ⟨_, h2⟩ := env_tk hp
    have hs : (hc.ob b).isSome = true := by rw [ho]; rfl
    obtain ⟨a1, a2, a3, a4⟩ := m.tok _ n p (ft.obj b _ ho) h2
    exact ⟨own_tk ft m hs a1, a2, a3, a4⟩
  · have := m.tokn _ n k (ft.obj b _ ho) hk
    simp only [envIn]
    split
    · exact this
    · rfl
  · have := m.toko _ n (ft.obj b _ ho)
    simp only [envIn]
    split
    · exact this
    · rfl
  · have hx : protIn ρ hc h E F w B = some x := hx
    show _ ∧ ownIn ρ hc h E F w B = .pr x.2
    unfold protIn at hx
    unfold ownIn
    cases ho : F.own B with
    | ob b =>
      simp only [ho] at hx ⊢
      cases hq : inv ρ hc b with
      | some j => rw [hq] at hx; cases hx
      | none =>
        rw [hq] at hx
        cases hw : w.heap[B]? with
        | none => rw [hw] at hx; cases hx
        | some y => rw [hw] at hx; cases hx; exact ⟨rfl, rfl⟩
    | tk b =>
      simp only [ho] at hx ⊢
      cases hq : inv ρ hc b with
      | some j => rw [hq] at hx; cases hx
      | none =>
        rw [hq] at hx
        cases hw : w.heap[B]? with
        | none => rw [hw] at hx; cases hx
        | some y => rw [hw] at hx; cases hx; exact ⟨rfl, rfl⟩
    | _ =>
      simp only [ho] at hx ⊢
      obtain ⟨a1, a2⟩ := m.prot B x hx
      rw [ho] at a2
      exact ⟨a1, a2⟩

/-! ### and out again -/
/-- what is known of addresses, behind the call. -/
noncomputable def envOut (ρ : Nat → Nat) (hc : H) (E E' : Env) : Env where
  ob := fun b => match inv ρ hc b with | some i => E'.ob i | none => E.ob b
  fz := E'.fz
  tk := fun b n => match inv ρ hc b with | some i => E'.tk i n | none => E.tk b n

noncomputable def ownOut (ρ : Nat → Nat) (hc h : H) (E : Env) (F : Fx) (w : World) (F' : Fx) (B : Nat) : Own :=
  match protIn ρ hc h E F w B with
  | some _ => F.own B
  | none => match F'.own B with
    | .ob i => .ob (ρ i)
    | .tk i => .tk (ρ i)
    | x => x

variable {E' : Env} {F' : Fx} {hc' : H} {w' : World}

theorem inv_low (ft : Foot ρ hc h) (hb : ∀ i, (hc.ob i).isSome = true → ρ i < h.nxt) (hg : glim ≤ h.nxt) {b i : Nat} (hl : b < glim) (hi : inv ρ hc b = some i) : i = b := by
  obtain ⟨h1, h2⟩ := inv_spec hi
  rcases h1 with h1 | h1
  · rcases Nat.lt_or_ge i glim with g | g
    · rw [ft.low i g] at h2; exact h2
    · have := ft.big i g (ft.lt h1); omega
  · rw [ft.new i h1] at h2; omega

/-- what the small memory may name, behind the call. -/
def DOut (hc : H) (i : Nat) : Prop := i < glim ∨ (hc.ob i).isSome = true ∨ hc.nxt ≤ i

theorem MR.frame (ft : Foot ρ hc h) (m : MR E F h w0 w) (hF : F.loc = noL) (x : Ext (envIn ρ hc E) hc E' hc') (hp : F'.prot = (fxIn ρ hc h E F w).prot) (m' : MR E' F' hc' w0 w') (hk : ∀ i o, hc'.ob i = some o → o.In (DOut hc)) :
    ∃ E2 F2, Onto ρ (DOut hc) E' E2 ∧ Ext E h E2 (mrg ρ hc h hc') ∧ F2.loc = noL ∧ F2.prot = F.prot ∧ MR E2 F2 (mrg ρ hc h hc') w0 w' := by
  have hb := foot_lt ft m
  have hnn : hc.nxt ≤ hc'.nxt := x.nxt
  have io : ∀ i, (hc.ob i).isSome = true ∨ hc.nxt ≤ i → inv ρ hc (ρ i) = some i := fun i hi => inv_of ft hb hi
  -- what is protected
  have pr : ∀ B y, protIn ρ hc h E F w B = some y → w'.heap[B]? = w.heap[B]? ∧ F'.own B = .pr y.2 ∧ w.heap[B]? = some y.1 := by
    intro B y hy
    obtain ⟨a1, a2⟩ := m'.prot B y (by rw [hp]; exact hy)
    obtain ⟨b1, _⟩ := (m.into ft).prot B y hy
    exact ⟨a1.trans b1.symm, a2, b1⟩
  have prOb : ∀ B b, B < w.heap.size → F.own B = .ob b → inv ρ hc b = none → ∃ y, protIn ρ hc h E F w B = some (y, none) := by
    intro B b hB ho hi
    obtain ⟨y, hy⟩ : ∃ y, w.heap[B]? = some y := ⟨_, Array.getElem?_eq_getElem hB⟩
    exact ⟨y, by simp only [protIn, ho, hi, hy]; rfl⟩
  have prTk : ∀ B b, B < w.heap.size → F.own B = .tk b → inv ρ hc b = none → ∃ y, protIn ρ hc h E F w B = some (y, some (tokB h E w b B)) := by
    intro B b hB ho hi
    obtain ⟨y, hy⟩ : ∃ y, w.heap[B]? = some y := ⟨_, Array.getElem?_eq_getElem hB⟩
    exact ⟨y, by simp only [protIn, ho, hi, hy]; rfl⟩
  have unpr : ∀ B, (∀ z, F'.own B ≠ .pr z) → protIn ρ hc h E F w B = none := by
    intro B hn
    cases hq : protIn ρ hc h E F w B with
    | none => rfl
    | some y => exact absurd (pr B y hq).2.1 (hn _)
  have oob : ∀ b i, inv ρ hc b = some i → (envOut ρ hc E E').ob b = E'.ob i := fun b i hi => by simp only [envOut, hi]
  have oobn : ∀ b, inv ρ hc b = none → (envOut ρ hc E E').ob b = E.ob b := fun b hi => by simp only [envOut, hi]
  have otk : ∀ b i n, inv ρ hc b = some i → (envOut ρ hc E E').tk b n = E'.tk i n := fun b i n hi => by simp only [envOut, hi]
  have otkn : ∀ b n, inv ρ hc b = none → (envOut ρ hc E E').tk b n = E.tk b n := fun b n hi => by simp only [envOut, hi]
  have mob : ∀ b i, inv ρ hc b = some i → (mrg ρ hc h hc').ob b = (hc'.ob i).map (Obj.ren ρ) := fun b i hi => by simp only [mrg, hi]
  have mobn : ∀ b, inv ρ hc b = none → (mrg ρ hc h hc').ob b = h.ob b := fun b hi => by simp only [mrg, hi]
  -- globals
  have low : ∀ b i, b < glim → inv ρ hc b = some i → i = b ∧ (hc.ob i).isSome = true := by
    intro b i hl hi
    have e := inv_low ft hb m.glo hl hi
    refine ⟨e, ?_⟩
    rcases (inv_spec hi).1 with g | g
    · exact g
    · have := ft.glo; omega
  have eold : ∀ i, i < hc.nxt → (i < glim ∨ (hc.ob i).isSome = true) → E'.ob i = E.ob (ρ i) := by
    intro i hi hd
    rw [x.old i hi]
    simp only [envIn]; rw [if_pos hd]
  have on : Onto ρ (DOut hc) E' (envOut ρ hc E E') := by
    refine ⟨fun i p hd hi => ?_, fun i n p hd hg hi => ?_, fun _ _ _ h => h⟩
    · rcases hd with hd | hd
      · have hl := ft.low i hd
        cases hq : inv ρ hc (ρ i) with
        | some j =>
          rw [oob _ _ hq]
          rw [hl] at hq
          rw [(low _ _ hd hq).1]; exact hi
        | none =>
          rw [oobn _ hq, ← eold i (by have := ft.glo; omega) (.inl hd)]; exact hi
      · rw [oob _ _ (io i hd)]; exact hi
    · rcases hd with hd | hd
      · omega
      · rw [otk _ _ _ (io i hd)]; exact hi
  have le : E.le (envOut ρ hc E E') := by
    refine ⟨fun b p hbp => ?_, fun B i v hf => x.le.fz B i v hf, fun b n p hbp => ?_⟩
    · cases hq : inv ρ hc b with
      | none => rw [oobn _ hq]; exact hbp
      | some i =>
        rw [oob _ _ hq]
        obtain ⟨h1, h2⟩ := inv_spec hq
        rcases h1 with h1 | h1
        · rw [eold i (ft.lt h1) (.inr h1), h2]; exact hbp
        · have := m.env_of hbp
          rw [← h2, ft.new i h1] at this; omega
    · cases hq : inv ρ hc b with
      | none => rw [otkn _ _ hq]; exact hbp
      | some i =>
        rw [otk _ _ _ hq]
        obtain ⟨h1, h2⟩ := inv_spec hq
        rcases h1 with h1 | h1
        · refine x.le.tk i n p ?_
          simp only [envIn]; rw [if_pos (.inr h1), h2]; exact hbp
        · rcases Nat.lt_or_ge b h.nxt with g | g
          · rw [← h2, ft.new i h1] at g; omega
          · rw [(m.fresh b g).2.2 n] at hbp; cases hbp
  have top : ∀ b, h.nxt + (hc'.nxt - hc.nxt) ≤ b → ∀ i, inv ρ hc b = some i → hc'.nxt ≤ i := by
    intro b hbb i hi
    obtain ⟨h1, h2⟩ := inv_spec hi
    rcases h1 with h1 | h1
    · have := hb i h1; omega
    · rw [ft.new i h1] at h2; omega
  have oo : ∀ B, protIn ρ hc h E F w B = none → ownOut ρ hc h E F w F' B = (match F'.own B with | .ob i => .ob (ρ i) | .tk i => .tk (ρ i) | x => x) := fun B hq => by simp only [ownOut, hq]
  have oop : ∀ B y, protIn ρ hc h E F w B = some y → ownOut ρ hc h E F w F' B = F.own B := fun B y hq => by simp only [ownOut, hq]
  refine ⟨envOut ρ hc E E', ⟨noL, F.prot, ownOut ρ hc h E F w F'⟩, on, ⟨le, fun b hlt => ?_, by show h.nxt ≤ h.nxt + _; omega, fun b o hlt he ho hnt => ?_⟩, rfl, rfl,
    ⟨m'.below, fun b hbb => ?_, by show glim ≤ h.nxt + _; have := m.glo; omega, fun b o hbl ho => ?_, fun b p hbl hpp => ?_, fun B hB => ?_, fun b o p ho hpp => ?_, fun b o p hg ho hpp => ?_, m'.fz, fun B i v hf hB => ?_, fun b n p ho hpp => ?_, fun b n k ho hkk => ?_, fun b n ho => ?_, fun d p hpp => (by cases hpp), fun B y hy => ?_⟩⟩
  · cases hq : inv ρ hc b with
    | none => exact oobn _ hq
    | some i =>
      rw [oob _ _ hq]
      obtain ⟨h1, h2⟩ := inv_spec hq
      rcases h1 with h1 | h1
      · rw [eold i (ft.lt h1) (.inr h1), h2]
      · rw [← h2, ft.new i h1] at hlt; omega
  · cases hq : inv ρ hc b with
    | none => rw [mobn _ hq]; exact ho
    | some i =>
      rw [mob _ _ hq]
      obtain ⟨h1, h2⟩ := inv_spec hq
      rcases h1 with h1 | h1
      · cases hci : hc.ob i with
        | none => rw [hci] at h1; cases h1
        | some oc =>
          have e1 := ft.obj i oc hci
          rw [h2, ho] at e1
          cases e1
          have := x.ghost i oc (ft.lt h1) (by simp only [envIn]; rw [if_pos (.inr h1), h2]; exact he) hci (by
            intro n e; subst e; exact hnt n rfl)
          rw [this]; rfl
      · rw [← h2, ft.new i h1] at hlt; omega
  · have hbb' : h.nxt + (hc'.nxt - hc.nxt) ≤ b := hbb
    cases hq : inv ρ hc b with
    | none =>
      obtain ⟨a1, a2, a3⟩ := m.fresh b (by omega)
      exact ⟨by rw [oobn _ hq]; exact a1, by rw [mobn _ hq]; exact a2, fun n => by rw [otkn _ _ hq]; exact a3 n⟩
    | some i =>
      obtain ⟨a1, a2, a3⟩ := m'.fresh i (top b hbb' i hq)
      exact ⟨by rw [oob _ _ hq]; exact a1, by rw [mob _ _ hq, a2]; rfl, fun n => by rw [otk _ _ _ hq]; exact a3 n⟩
  · cases hq : inv ρ hc b with
    | none => rw [mobn _ hq] at ho; exact m.glb b o hbl ho
    | some i =>
      rw [mob _ _ hq] at ho
      obtain ⟨rfl, _⟩ := low b i hbl hq
      cases ho2 : hc'.ob i with
      | none => rw [ho2] at ho; cases ho
      | some o2 =>
        rw [ho2] at ho; cases ho
        obtain ⟨op, cs, e⟩ := m'.glb i o2 hbl ho2
        subst e
        exact ⟨op, _, rfl⟩
  · cases hq : inv ρ hc b with
    | none => rw [oobn _ hq] at hpp; exact m.gbl b p hbl hpp
    | some i =>
      rw [oob _ _ hq] at hpp
      obtain ⟨rfl, _⟩ := low b i hbl hq
      exact m'.gbl i p hbl hpp
  · cases hq : protIn ρ hc h E F w B with
    | some y =>
      obtain ⟨a1, a2, a3⟩ := pr B y hq
      rw [a3] at a1
      exact (Array.getElem?_eq_some_iff.1 a1).1
    | none =>
      refine m'.lto B fun e => hB ?_
      show ownOut ρ hc h E F w F' B = .no
      rw [oo B hq, e]
  · cases hq : inv ρ hc b with
    | some i =>
      rw [mob _ _ hq] at ho
      rw [oob _ _ hq] at hpp
      cases ho2 : hc'.ob i with
      | none => rw [ho2] at ho; cases ho
      | some o2 =>
        rw [ho2] at ho; cases ho
        exact ObjR.onto on (hk i o2 ho2) (m'.obj i o2 p ho2 hpp)
    | none =>
      rw [mobn _ hq] at ho
      rw [oobn _ hq] at hpp
      have r := (m.obj b o p ho hpp).mono le
      refine r.world ?_
      rcases Nat.lt_or_ge b glim with g | g
      · have := m.gbl b p g hpp
        rw [m'.below.block _ this, m.below.block _ this]
      · obtain ⟨a1, a2⟩ := m.oOb b o p g ho hpp
        obtain ⟨y, hy⟩ := prOb _ _ (m.lt ho hpp) a1 hq
        exact (pr _ _ hy).1
  · show ownOut ρ hc h E F w F' p.blk = .ob b ∧ _
    cases hq : inv ρ hc b with
    | some i =>
      rw [mob _ _ hq] at ho
      rw [oob _ _ hq] at hpp
      obtain ⟨h1, h2⟩ := inv_spec hq
      cases ho2 : hc'.ob i with
      | none => rw [ho2] at ho; cases ho
      | some o2 =>
        have hgi : glim ≤ i := by
          rcases Nat.lt_or_ge i glim with g | g
          · rw [ft.low i g] at h2; omega
          · exact g
        obtain ⟨a1, a2⟩ := m'.oOb i o2 p hgi ho2 hpp
        refine ⟨?_, a2⟩
        rw [oo _ (unpr _ (fun z e => by rw [a1] at e; cases e)), a1]
        show Own.ob (ρ i) = _
        rw [h2]
    | none =>
      rw [mobn _ hq] at ho
      rw [oobn _ hq] at hpp
      obtain ⟨a1, a2⟩ := m.oOb b o p hg ho hpp
      obtain ⟨y, hy⟩ := prOb _ _ (m.lt ho hpp) a1 hq
      exact ⟨by rw [oop _ _ hy]; exact a1, a2⟩
  · show ownOut ρ hc h E F w F' B = .fz ∨ (∃ b, ownOut ρ hc h E F w F' B = .tk b) ∨ ∃ k, ownOut ρ hc h E F w F' B = .pr (some k) ∧ i < k
    have hf' : E'.fz B i = some v := hf
    cases hq : protIn ρ hc h E F w B with
    | some y =>
      rw [oop _ _ hq]
      obtain ⟨a1, a2, a3⟩ := pr B y hq
      rcases m'.oFz B i v hf' hB with a | ⟨b, a⟩ | ⟨k, a, ak⟩
      · rw [a2] at a; cases a
      · rw [a2] at a; cases a
      · rw [a2] at a
        have hyk : y.2 = some k := Own.pr.inj a
        -- who had it
        have hq2 := hq
        unfold protIn at hq2
        cases ho : F.own B with
        | ob b =>
          simp only [ho] at hq2
          cases hi : inv ρ hc b with
          | some j => rw [hi] at hq2; cases hq2
          | none =>
            rw [hi] at hq2
            cases hw : w.heap[B]? with
            | none => rw [hw] at hq2; cases hq2
            | some z => rw [hw] at hq2; cases hq2; cases hyk
        | tk b => exact .inr (.inl ⟨b, rfl⟩)
        | _ =>
          simp only [ho] at hq2
          have := (m.prot B y hq2).2
          rw [ho] at this
          first
            | (cases this; done)
            | (right; right; rw [this]; exact ⟨k, by rw [hyk], ak⟩)
    | none =>
      rw [oo _ hq]
      rcases m'.oFz B i v hf' hB with a | ⟨b, a⟩ | ⟨k, a, ak⟩
      · rw [a]; exact .inl rfl
      · rw [a]; exact .inr (.inl ⟨_, rfl⟩)
      · rw [a]; exact .inr (.inr ⟨k, rfl, ak⟩)
  · show ownOut ρ hc h E F w F' p.blk = .tk b ∧ _ ∧ _ ∧ ∀ i, p.off ≤ i → E'.fz p.blk i = none
    cases hq : inv ρ hc b with
    | some i =>
      rw [mob _ _ hq] at ho
      rw [otk _ _ _ hq] at hpp
      obtain ⟨h1, h2⟩ := inv_spec hq
      cases ho2 : hc'.ob i with
      | none => rw [ho2] at ho; cases ho
      | some o2 =>
        rw [ho2] at ho
        have : o2 = .tok n := by cases o2 <;> cases ho; rfl
        subst this
        obtain ⟨a1, a2, a3, a4⟩ := m'.tok i n p ho2 hpp
        refine ⟨?_, a2, a3, a4⟩
        rw [oo _ (unpr _ (fun z e => by rw [a1] at e; cases e)), a1]
        show Own.tk (ρ i) = _
        rw [h2]
    | none =>
      rw [mobn _ hq] at ho
      rw [otkn _ _ hq] at hpp
      obtain ⟨a1, a2, a3, a4⟩ := m.tok b n p ho hpp
      obtain ⟨y, hy⟩ := prTk _ _ (m.lto _ (by rw [a1]; simp)) a1 hq
      obtain ⟨b1, b2, b3⟩ := pr _ _ hy
      refine ⟨by rw [oop _ _ hy]; exact a1, a2, TokR.world b1 a3, fun i hi => ?_⟩
      cases hz : E'.fz p.blk i with
      | none => rfl
      | some v =>
        exfalso
        have b2' : F'.own p.blk = .pr (some (tokB h E w b p.blk)) := b2
        rcases m'.oFz p.blk i v hz a2 with a | ⟨_, a⟩ | ⟨k, a, ak⟩
        · rw [b2'] at a; cases a
        · rw [b2'] at a; cases a
        · rw [b2'] at a
          cases a
          rw [tokB_at ⟨n, ho, hpp, rfl⟩] at ak
          omega
  · cases hq : inv ρ hc b with
    | some i =>
      rw [mob _ _ hq] at ho
      rw [otk _ _ _ hq]
      cases ho2 : hc'.ob i with
      | none => rw [ho2] at ho; cases ho
      | some o2 =>
        rw [ho2] at ho
        have : o2 = .tok n := by cases o2 <;> cases ho; rfl
        subst this
        exact m'.tokn i n k ho2 hkk
    | none =>
      rw [mobn _ hq] at ho
      rw [otkn _ _ hq]
      exact m.tokn b n k ho hkk
  · cases hq : inv ρ hc b with
    | some i =>
      rw [mob _ _ hq] at ho
      rw [oob _ _ hq]
      cases ho2 : hc'.ob i with
      | none => rw [ho2] at ho; cases ho
      | some o2 =>
        rw [ho2] at ho
        have : o2 = .tok n := by cases o2 <;> cases ho; rfl
        subst this
        exact m'.toko i n ho2
    | none =>
      rw [mobn _ hq] at ho
      rw [oobn _ hq]
      exact m.toko b n ho
  · have hy' : F.prot B = some y := hy
    obtain ⟨a1, a2⟩ := m.prot B y hy'
    have hq : protIn ρ hc h E F w B = some y := by simp only [protIn, a2]; exact hy'
    obtain ⟨b1, b2, b3⟩ := pr B y hq
    exact ⟨b1.trans a1, by show ownOut ρ hc h E F w F' B = _; rw [oop _ _ hq]; exact a2⟩
end

/-- a call over few objects is a call over any memory that holds such. -/
theorem SCall.frame {P : Program} {gl : List Nat} {f : FuncId} {args : List V} {hc hc' h h' : H} {v : V} {ρ : Nat → Nat} {args2 : List V} {v2 : V} (hgl : gl.all (Nat.blt · glim) = true) (core : SCall P gl f args none hc (.ret v) none hc')
    (ft : (∃ E F w0 w args', Begun gl args2 h E F w0 w args') → Foot ρ hc h) (hargs : Ins (fun j => j < glim ∨ (hc.ob j).isSome = true) args) (hv : v.In (DOut hc)) (hk : ∀ i o, hc'.ob i = some o → o.In (DOut hc))
    (ha : rens ρ args = args2) (hr : v.ren ρ = v2) (hh : h' = mrg ρ hc h hc') : SCall P gl f args2 none h (.ret v2) none h' := by
  subst ha; subst hr; subst hh
  refine ⟨rfl, core.fn, fun E F w0 w args' kind cs hF m g ra huk => ?_⟩
  have ft := ft ⟨E, F, w0, w, args', hF, m, g, ra⟩
  have hgl' : ∀ x ∈ gl, x < glim := fun x hx => by have := List.all_eq_true.1 hgl x hx; rwa [Nat.blt_eq] at this
  have gc : GL (envIn ρ hc E) gl := by
    intro x hx
    obtain ⟨p, a, b⟩ := g x hx
    have hl := hgl' x (by simpa using hx)
    refine ⟨p, ?_, b⟩
    simp only [envIn]; rw [if_pos (.inl hl), ft.low x hl]; exact a
  obtain ⟨E', F', w', cs', fr', a1, a2, a3, a4, a5, a6, a7, a8, a9, a10, a11, a12, z1, fnr, x, z2, z3, z4⟩ := core.run (envIn ρ hc E) (fxIn ρ hc h E F w) w0 w args' kind cs rfl (m.into ft) gc (ARs.into (into_in ft) hargs ra) huk
  obtain ⟨E2, F2, b1, b2, b3, b4, b5⟩ := MR.frame ft m hF a1 a3 a4 hk
  exact ⟨E2, F2, w', cs', fr', b2, b3, b4, b5, a5, a6, a7, a8, a9, a10, a11, a12, z1, fnr, x, z2, z3, AR.onto b1 hv z4⟩
end Go.VM
