/- The law BodyEnds is true for every block, in every world whose listed variables are as the program lays them. No other condition. -/
import Derived.Test.YtaednlggmjlaaaaGreatDoorVtEnds3
import Derived.Test.YtaednlggmjlaaaaGreatDoorVmH
import Derived.Test.YtaednlggmjlaaaaGreatDoorAwakeRunB
import Derived.Test.YtaednlggmjlaaaaGreatDoorVbJe
import Derived.Test.YtaednlggmjlaaaaGreatDoorCards
import Derived.Test.YtaednlggmjlaaaaGreatDoorTie
import Derived.Test.YtaednlggmjlaaaaGreatDoorRows
import Derived.ChangeMaps5
import Derived.ProofKit
import Derived.OpenShut
import Derived.SizedLaws
import Derived.LaidMore
import Derived.Lay
import Derived.SevenTiedAt
import Derived.Stop.Joined
namespace Go.VM
mutual
theorem dV_in {H : Type} {D : Nat → Prop} : ∀ d : DataW H, Ins D (dV d)
 | .lit (.bool _) => ⟨trivial, trivial⟩
 | .lit (.int _ _) => ⟨trivial, trivial⟩
 | .lit (.string _) => ⟨trivial, trivial⟩
 | .nil => ⟨⟨trivial, trivial⟩, trivial⟩
 | .slice es _ => ⟨⟨dVs_in es, trivial⟩, trivial⟩
 | .agg ps => dVf_in ps
 | d => by
  unfold dV
  split <;> first | exact trivial | exact ⟨trivial, trivial⟩ | exact ⟨⟨trivial, trivial⟩, trivial⟩ | (exact ⟨⟨dVs_in _, trivial⟩, trivial⟩) | exact dVf_in _
theorem dVs_in {H : Type} {D : Nat → Prop} : ∀ l : List (DataW H), Inss D (dVs l)
 | [] => trivial
 | x :: r => ⟨dV_in x, dVs_in r⟩
theorem dVf_in {H : Type} {D : Nat → Prop} : ∀ l : List (DataW H), Ins D (dVf l)
 | [] => trivial
 | x :: r => by
  show Ins D (dV x ++ dVf r)
  have h1 := dV_in (D := D) x
  have h2 := dVf_in (D := D) r
  generalize dV x = a at h1
  generalize dVf r = b at h2
  induction a with
  | nil => exact h2
  | cons y a ih => exact ⟨h1.1, ih h1.2⟩
end
end Go.VM
namespace Go.Proofs.YtaednlggmjlaaaaGreatDoor
open Go.ChangeShapes Go.WideShapes Go.ChangeAt Go.RowKit
theorem Tryz.flat : VM.flatB Tryz.prog [3, 4, 9, 23, 31, 33, 34, 36, 38] = true := by kernel_rfl
theorem decSl {H : Type} {n : Nat} {t e : Nat} {d : DataW H} (h : VM.TyD Tryz.prog n t d) (hu : Tryz.prog.underlying t = some (.slice e)) : ∃ es : List (List VM.V), VM.dV d = [.lst es .unk] ∧ VM.Inss (fun _ => False) es := by
 rcases h.sl hu with rfl | ⟨es, sp, m', rfl, rfl, _, hes⟩
 ·exact ⟨[], rfl, trivial⟩
 ·exact ⟨VM.dVs es, rfl, VM.dVs_in es⟩
theorem decTx {H : Type} {n : Nat} {d : DataW H} (h : VM.TyD Tryz.prog n 33 d) : ∃ (tk ta : Int) (tp tn : List Nat) (targs : List (List VM.V)), VM.dV d = [.int .i64 tk, .int .i64 ta, .str tp, .str tn, .lst targs .unk] ∧ VM.Inss (fun _ => False) targs := by
 obtain ⟨xs, m, rfl, rfl, hx⟩ := h.st Tryz.underlying33
 cases hx with
 | cons h1 t => cases t with
  | cons h2 t => cases t with
   | cons h3 t => cases t with
    | cons h4 t => cases t with
     | cons h5 t =>
      cases t
      obtain ⟨k, rfl, _⟩ := h1.int Tryz.underlying3
      obtain ⟨a, rfl, _⟩ := h2.int Tryz.underlying3
      obtain ⟨p, rfl, _⟩ := h3.str Tryz.underlying9
      obtain ⟨nm, rfl, _⟩ := h4.str Tryz.underlying9
      obtain ⟨es, e1, e2⟩ := decSl h5 Tryz.underlying31
      exact ⟨k, a, p.map UInt8.toNat, nm.map UInt8.toNat, es, by simp only [VM.dV, VM.dVf, e1]; rfl, e2⟩
theorem decEx {H : Type} {n : Nat} {d : DataW H} (h : VM.TyD Tryz.prog n 36 d) : ∃ (xk xa xe : Int) (xn : List Nat) (xi tk ta : Int) (tp tn : List Nat) (targs xargs : List (List VM.V)), VM.dV d = [.int .i64 xk, .int .i64 xa, .int .i64 xe, .str xn, .int .i64 xi, .int .i64 tk, .int .i64 ta, .str tp, .str tn, .lst targs .unk, .lst xargs .unk] ∧ VM.Inss (fun _ => False) targs ∧ VM.Inss (fun _ => False) xargs := by
 obtain ⟨xs, m, rfl, rfl, hx⟩ := h.st Tryz.underlying36
 cases hx with
 | cons h1 t => cases t with
  | cons h2 t => cases t with
   | cons h3 t => cases t with
    | cons h4 t => cases t with
     | cons h5 t => cases t with
      | cons h6 t => cases t with
       | cons h7 t =>
        cases t
        obtain ⟨k, rfl, _⟩ := h1.int Tryz.underlying3
        obtain ⟨a, rfl, _⟩ := h2.int Tryz.underlying3
        obtain ⟨e, rfl, _⟩ := h3.int Tryz.underlying3
        obtain ⟨nm, rfl, _⟩ := h4.str Tryz.underlying9
        obtain ⟨i, rfl, _⟩ := h5.int Tryz.underlying3
        obtain ⟨tk, ta, tp, tn, targs, e1, e2⟩ := decTx h6
        obtain ⟨es, e3, e4⟩ := decSl h7 Tryz.underlying34
        exact ⟨k, a, e, nm.map UInt8.toNat, i, tk, ta, tp, tn, targs, es, by simp only [VM.dV, VM.dVf, e1, e3]; rfl, e2, e4⟩
theorem decSt {H : Type} (n : Nat) : ∀ (d : DataW H), VM.TyD Tryz.prog n 38 d → ∃ x : VM.ST, VM.dV d = VM.encS x ∧ VM.okS x := by
 induction n using Nat.strongRecOn with
 | _ n ih =>
 intro d h
 obtain ⟨xs, m, rfl, rfl, hx⟩ := h.st Tryz.underlying38
 have key : ∀ (k : Nat), k < m + 1 → ∀ es : List (DataW H), (∀ x ∈ es, VM.TyD Tryz.prog k 38 x) → ∃ l : List VM.ST, VM.dVs es = VM.encSs l ∧ VM.okSs l ∧ l.length = es.length := by
  intro k hk es
  induction es with
  | nil => intro _; exact ⟨[], rfl, trivial, rfl⟩
  | cons y r ihr =>
   intro h1
   obtain ⟨x, e1, o1⟩ := ih k hk y (h1 y (by simp))
   obtain ⟨l, e2, o2, o3⟩ := ihr (fun x h => h1 x (by simp [h]))
   exact ⟨x :: l, by simp only [VM.dVs, VM.encSs, e1, e2], ⟨o1, o2⟩, by simp [o3]⟩
 have lst : ∀ (d : DataW H), VM.TyD Tryz.prog m 23 d → ∃ l : List VM.ST, VM.dV d = [.lst (VM.encSs l) .unk] ∧ VM.okSs l ∧ l.length ≤ 9223372036854775807 := by
  intro d hd
  rcases hd.sl Tryz.underlying23 with rfl | ⟨es, sp, m', rfl, rfl, hle, hes⟩
  ·exact ⟨[], rfl, trivial, by decide⟩
  ·obtain ⟨l, e2, o2, o3⟩ := key m' (by omega) es hes
   refine ⟨l, by simp only [VM.dV, e2], o2, ?_⟩
   rw [o3]
   unfold maxLen at hle
   omega
 cases hx with
 | cons h1 t => cases t with
  | cons h2 t => cases t with
   | cons h3 t => cases t with
    | cons h4 t => cases t with
     | cons h5 t => cases t with
      | cons h6 t => cases t with
       | cons h7 t =>
        cases t
        obtain ⟨k, rfl, _⟩ := h1.int Tryz.underlying3
        obtain ⟨a, rfl, _⟩ := h2.int Tryz.underlying3
        obtain ⟨nm, rfl, _⟩ := h3.str Tryz.underlying9
        obtain ⟨q, rfl⟩ := h4.bool Tryz.underlying4
        obtain ⟨xk, xa, xe, xn, xi, tk, ta, tp, tn, targs, xargs, e1, e2, e3⟩ := decEx h5
        obtain ⟨bd, e4, e5, e6⟩ := lst _ h6
        obtain ⟨el, e7, e8, e9⟩ := lst _ h7
        exact ⟨.mk k a (nm.map UInt8.toNat) q xk xa xe xn xi tk ta tp tn targs xargs bd el, by simp only [VM.dV, VM.dVf, VM.encS, e1, e4, e7]; rfl, e2, e3, e5, e8, e6, e9⟩
theorem decStT {H : Type} (n : Nat) (d : DataW H) (h : VM.TyD Tryz.prog n 23 d) : ∃ l : List VM.ST, VM.dV d = [.lst (VM.encSs l) .unk] ∧ VM.okSs l ∧ l.length ≤ 9223372036854775807 := by
 have key : ∀ (k : Nat) (es : List (DataW H)), (∀ x ∈ es, VM.TyD Tryz.prog k 38 x) → ∃ l : List VM.ST, VM.dVs es = VM.encSs l ∧ VM.okSs l ∧ l.length = es.length := by
  intro k es
  induction es with
  | nil => intro _; exact ⟨[], rfl, trivial, rfl⟩
  | cons y r ihr =>
   intro h1
   obtain ⟨x, e1, o1⟩ := decSt k y (h1 y (by simp))
   obtain ⟨l, e2, o2, o3⟩ := ihr (fun x h => h1 x (by simp [h]))
   exact ⟨x :: l, by simp only [VM.dVs, VM.encSs, e1, e2], ⟨o1, o2⟩, by simp [o3]⟩
 rcases h.sl Tryz.underlying23 with rfl | ⟨es, sp, m', rfl, rfl, hle, hes⟩
 ·exact ⟨[], rfl, trivial, by decide⟩
 ·obtain ⟨l, e2, o2, o3⟩ := key m' es hes
  refine ⟨l, by simp only [VM.dV, e2], o2, ?_⟩
  rw [o3]
  unfold maxLen at hle
  omega
theorem bodyEnds_laid {W : World} (h : laidMetH Tryz.prog Rows.bodyEndsRow.laid W) : ∃ c t, W.heap[0]? = some (.cells c t (0, 0)) ∧ c = (AM.spaces.map fun z => Value.int .u8 z).toArray := by
 exact AM.space_laid (t := 211) (e := 5) h (by kernel_rfl) (by kernel_rfl) Tryz.spaceG (by kernel_rfl) (by kernel_rfl) (by kernel_rfl) (by kernel_rfl) (by kernel_rfl) (of_decide_eq_true (by kernel_rfl))
set_option maxRecDepth 100000 in
theorem bodyEnds_lifted (os : Os) (started : os.Started) (H : Type) (enc : TypeId × Value → H) :
  ReturnsInHanded {} Tryz.checked os 4 .any (fun w args => (Rows.bodyEndsSpec.pre enc Tryz.prog Tryz.f4 Rows.bodyEndsRow.domain false w args ∧ laidMetH Tryz.prog Rows.bodyEndsRow.laid w) ∧ sizedMet enc Tryz.prog Tryz.f4 (OpenSpec.ofChange Rows.bodyEndsSpec) false w args)
   (Rows.bodyEndsSpec.post enc Tryz.prog Tryz.f4 false true false false) := by
 refine returnsInHanded_of_change_and (C := Tryz.checked) (X := fun w _ => laidMetH Tryz.prog Rows.bodyEndsRow.laid w) (fun _ _ _ hh h => h.of_heap hh) Tryz.own started (by kernel_rfl) Tryz.func4
  (ChangeSpec.witness_shaped (enc := enc) (C := Tryz.checked) (os := os) (X := fun w _ => laidMetH Tryz.prog Rows.bodyEndsRow.laid w) false (World.laidAll Tryz.prog os Rows.bodyEndsRow.laid) #[.slice none 0 0] 8 (World.laidAll_os _ _ _)
   (World.shaped_of_ZipB (by kernel_rfl) (by kernel_rfl)) (by kernel_rfl) (by kernel_rfl) (by kernel_rfl)
   (by rw [MakeChecks.laidMetH_plain _ _ _ (by kernel_rfl)]; exact laidMet_laidAll _ (by kernel_rfl) (by kernel_rfl))) ?_
 intro W base args ds gs before hval0 hW hcnd hsz hL _
 have hval : ∀ (j : Nat) t v, Tryz.f4.params[j]? = some t → args[j]? = some v → Value.okWide Tryz.prog W .any base t v := hval0
 have hW' := hW
 obtain ⟨p, q, hA0, hV, rfl, hfz, hnd⟩ := hW
 have hA : DataW.TrodAll enc Tryz.prog W 0 (fun _ => true) true Tryz.f4.params.toList args.toList ds p := hA0
 rw [Tryz.params4] at hA hval
 obtain ⟨v0, d0, rfl, rfl, h0⟩ := trodAll_one hA
 obtain ⟨rfl, rfl⟩ := trodVars_none hV
 obtain ⟨fu0, h0⟩ := h0
 obtain ⟨r0, _, t0⟩ := VM.read_ok Tryz.flat fu0 _ _ _ (by decide) h0
 have k0 := hval 0 23 v0 rfl rfl
 obtain ⟨x, hx, ok, hlen⟩ := decStT fu0 d0 t0
 have a0 := VM.arg_slice Tryz.underlying23 k0 r0 hx
 obtain ⟨c, t, hb, hc⟩ := bodyEnds_laid hL
 refine (VM.calls_tab (args' := #[v0]) (VM.ends_law x ok hlen (fun nx lc => VM.awake_of Tryz.prOk Tryz.awake_run (by decide) rfl)) (by decide) hb hc (.cons _ _ _ _ a0 .nil)).mono fun e W' ⟨E', v', he, hv, bel⟩ => ?_
 cases hv
 subst he
 exact ⟨_, rfl, ⟨_, _, _, [], _, _, hW', trodAll_mk1 (shut_bool (by kernel_rfl) true), VM.stays_of Tryz.flat bel (by decide) hW' hA0, hV, bel.frame _, fun h => by cases h⟩⟩
theorem bodyEnds_row : Rows.BodyEndsSaid :=
 OpenClaim.holds_of_wide 4 Tryz.f4 rfl rfl rfl rfl rfl rfl rfl ⟨rfl, rfl, rfl, rfl, rfl⟩ rfl rfl rfl rfl rfl (by kernel_rfl) Tryz.func4 bodyEnds_closed
  (of_decide_eq_true (by kernel_rfl)) (by unfold Func.isWrapper; first | (rw [if_pos (by decide +kernel)]; kernel_rfl) | (rw [if_neg (by decide +kernel)]; exact ⟨rfl, rfl⟩))
  (fun os started H enc _ => bodyEnds_lifted os started H enc)
theorem bodyEnds_holds : Rows.BodyEndsCardSaid :=
 Claim7.holds_tied_plain_at .later [] [.data, .data, .data, .sentinel, .sentinel, .listed, .data] true (true, "af08db9d5389d375f3aa33e544b8364f23bfc1152bfd987f4e6657f6800d6f1c") true
  bodyEnds_row (fun _ h => by cases h) (by kernel_rfl) (fun _ h => by cases h) bodyEnds_row_tie rfl ⟨rfl, rfl⟩ (by kernel_rfl) rfl
  (fun f fn hf hfn => by
   obtain rfl : f = 4 := Option.some.inj ((show Tryz.prog.funcNamed "quoin/quoinlaw14.BodyEnds" = some 4 by kernel_rfl).symm.trans hf) |>.symm
   obtain rfl : fn = Tryz.f4 := (Option.some.inj (Tryz.func4.symm.trans hfn)).symm
   exact ⟨by kernel_rfl, fun j t ht => by
    rw [Tryz.params4] at ht
    have : t = 23 := by
     cases j with
     | zero => simpa using ht.symm
     | succ j => simp at ht
    subst this
    show Tryz.prog.wantsStandIn 23 = false
    kernel_rfl⟩)
  (by kernel_rfl)
#print axioms bodyEnds_holds
end Go.Proofs.YtaednlggmjlaaaaGreatDoor
