/- The law SigTypes is true for every scope and every type, in every world whose listed variables are as the program lays them. No other condition. -/
import Derived.Test.YthacfmmgcbjagaaGreatDoorVsSig8
import Derived.Test.YthacfmmgcbjagaaGreatDoorVmH
import Derived.Test.YthacfmmgcbjagaaGreatDoorAwSigTypes
import Derived.Test.YthacfmmgcbjagaaGreatDoorVbSigTypesJe
import Derived.Test.YthacfmmgcbjagaaGreatDoorCards
import Derived.Test.YthacfmmgcbjagaaGreatDoorTie
import Derived.Test.YthacfmmgcbjagaaGreatDoorRows
import Derived.ChangeMaps5
import Derived.ProofKit
import Derived.OpenShut
import Derived.SizedLaws
import Derived.LaidMore
import Derived.Lay
import Derived.SevenTiedAt
import Derived.Stop.Joined
namespace Go.VM
mutual
theorem dV_in {H : Type} {D : Nat → Prop} : ∀ d : DataW H, Ins D (dV d)
 | .lit (.bool _) => ⟨trivial, trivial⟩
 | .lit (.int _ _) => ⟨trivial, trivial⟩
 | .lit (.string _) => ⟨trivial, trivial⟩
 | .nil => ⟨⟨trivial, trivial⟩, trivial⟩
 | .slice es _ => ⟨⟨dVs_in es, trivial⟩, trivial⟩
 | .agg ps => dVf_in ps
 | d => by
  unfold dV
  split <;> first | exact trivial | exact ⟨trivial, trivial⟩ | exact ⟨⟨trivial, trivial⟩, trivial⟩ | (exact ⟨⟨dVs_in _, trivial⟩, trivial⟩) | exact dVf_in _
theorem dVs_in {H : Type} {D : Nat → Prop} : ∀ l : List (DataW H), Inss D (dVs l)
 | [] => trivial
 | x :: r => ⟨dV_in x, dVs_in r⟩
theorem dVf_in {H : Type} {D : Nat → Prop} : ∀ l : List (DataW H), Ins D (dVf l)
 | [] => trivial
 | x :: r => by
  show Ins D (dV x ++ dVf r)
  have h1 := dV_in (D := D) x
  have h2 := dVf_in (D := D) r
  generalize dV x = a at h1
  generalize dVf r = b at h2
  induction a with
  | nil => exact h2
  | cons y a ih => exact ⟨h1.1, ih h1.2⟩
end
end Go.VM
namespace Go.Proofs.YthacfmmgcbjagaaGreatDoor
open Go.ChangeShapes Go.WideShapes Go.ChangeAt Go.RowKit
theorem Tryz.flat : VM.flatB Tryz.prog [3, 4, 9, 27, 28, 29, 30, 32, 33, 35, 38, 45, 46, 48, 51, 52, 54, 56, 58, 147, 284] = true := by kernel_rfl
theorem decSl {H : Type} {n : Nat} {t e : Nat} {d : DataW H} (h : VM.TyD Tryz.prog n t d) (hu : Tryz.prog.underlying t = some (.slice e)) : ∃ es : List (List VM.V), VM.dV d = [.lst es .unk] ∧ VM.NoR es := by
 rcases h.sl hu with rfl | ⟨es, sp, m', rfl, rfl, _, hes⟩
 ·exact ⟨[], rfl, trivial⟩
 ·exact ⟨VM.dVs es, rfl, VM.dVs_in es⟩
theorem decStr {H : Type} (n : Nat) (d : DataW H) (h : VM.TyD Tryz.prog n 9 d) : ∃ k : List Nat, VM.dV d = VM.ksg k ∧ True := by
 obtain ⟨x, rfl, _⟩ := h.str Tryz.underlying9
 exact ⟨x.map UInt8.toNat, rfl, trivial⟩
theorem decTD {H : Type} (n : Nat) (d : DataW H) (h : VM.TyD Tryz.prog n 54 d) : ∃ x : VM.TDx, VM.dV d = VM.encTD x ∧ VM.okTD x := by
 obtain ⟨xs, m, rfl, rfl, hx⟩ := h.st Tryz.underlying54
 cases hx with
 | cons h1 t => cases t with
  | cons h2 t => cases t with
   | cons h3 t => cases t with
    | cons h4 t =>
     cases t
     obtain ⟨nm, rfl, _⟩ := h1.str Tryz.underlying9
     obtain ⟨q, rfl⟩ := h2.bool Tryz.underlying4
     obtain ⟨fs, e1, o1⟩ := decSl h3 Tryz.underlying51
     obtain ⟨ms, e2, o2⟩ := decSl h4 Tryz.underlying52
     exact ⟨⟨nm.map UInt8.toNat, q, fs, ms⟩, by simp only [VM.dV, VM.dVf, e1, e2]; rfl, o1, o2⟩
theorem decIf {H : Type} (n : Nat) (d : DataW H) (h : VM.TyD Tryz.prog n 48 d) : ∃ x : VM.IFx, VM.dV d = VM.encIf x ∧ VM.okIf x := by
 obtain ⟨xs, m, rfl, rfl, hx⟩ := h.st Tryz.underlying48
 cases hx with
 | cons h1 t => cases t with
  | cons h2 t => cases t with
   | cons h3 t =>
    cases t
    obtain ⟨nm, rfl, _⟩ := h1.str Tryz.underlying9
    obtain ⟨ts, e1, l1, o1⟩ := VM.decode_slice decTD h2 Tryz.underlying45
    obtain ⟨ms, e2, o2⟩ := decSl h3 Tryz.underlying46
    exact ⟨⟨nm.map UInt8.toNat, ts, ms⟩, by simp only [VM.dV, VM.dVf, e1, e2]; rfl, o2, (by unfold VM.mxl; unfold maxLen at l1; omega), o1⟩
theorem decSc {H : Type} (n : Nat) (d : DataW H) (h : VM.TyD Tryz.prog n 32 d) : ∃ x : VM.SCx, VM.dV d = VM.encSc x ∧ VM.okSc x := by
 obtain ⟨xs, m, rfl, rfl, hx⟩ := h.st Tryz.underlying32
 cases hx with
 | cons h1 t => cases t with
  | cons h2 t => cases t with
   | cons h3 t => cases t with
    | cons h4 t => cases t with
     | cons h5 t =>
      cases t
      obtain ⟨w, e1, l1, o1⟩ := VM.decode_slice decIf h1 Tryz.underlying27
      obtain ⟨im, e2, l2, _⟩ := VM.decode_slice decStr h2 Tryz.underlying28
      obtain ⟨nm, e3, l3, _⟩ := VM.decode_slice decStr h3 Tryz.underlying28
      obtain ⟨bo, e4, o4⟩ := decSl h4 Tryz.underlying29
      obtain ⟨va, e5, o5⟩ := decSl h5 Tryz.underlying30
      unfold maxLen at l1 l2 l3
      exact ⟨⟨w, im, nm, bo, va⟩, by simp only [VM.dV, VM.dVf, e1, e2, e3, e4, e5]; rfl, o4, o5, (by unfold VM.mxl; omega), (by unfold VM.mxl; omega), (by unfold VM.mxl; omega), o1⟩
theorem decT {H : Type} (n : Nat) : ∀ (d : DataW H), VM.TyD Tryz.prog n 35 d → ∃ x : VM.TX, VM.dV d = VM.encT x := by
 induction n using Nat.strongRecOn with
 | _ n ih =>
 intro d h
 obtain ⟨xs, m, rfl, rfl, hx⟩ := h.st Tryz.underlying35
 have key : ∀ (k : Nat), k < m + 1 → ∀ es : List (DataW H), (∀ x ∈ es, VM.TyD Tryz.prog k 35 x) → ∃ l : List VM.TX, VM.dVs es = VM.encTs l := by
  intro k hk es
  induction es with
  | nil => intro _; exact ⟨[], rfl⟩
  | cons y r ihr =>
   intro h1
   obtain ⟨x, e1⟩ := ih k hk y (h1 y (by simp))
   obtain ⟨l, e2⟩ := ihr (fun x h => h1 x (by simp [h]))
   exact ⟨x :: l, by simp only [VM.dVs, VM.encTs, e1, e2]⟩
 cases hx with
 | cons h1 t => cases t with
  | cons h2 t => cases t with
   | cons h3 t => cases t with
    | cons h4 t => cases t with
     | cons h5 t =>
      cases t
      obtain ⟨k, rfl, _⟩ := h1.int Tryz.underlying3
      obtain ⟨a, rfl, _⟩ := h2.int Tryz.underlying3
      obtain ⟨p, rfl, _⟩ := h3.str Tryz.underlying9
      obtain ⟨nm, rfl, _⟩ := h4.str Tryz.underlying9
      rcases h5.sl Tryz.underlying33 with rfl | ⟨es, sp, m', rfl, rfl, _, hes⟩
      ·exact ⟨.mk k a (p.map UInt8.toNat) (nm.map UInt8.toNat) [], rfl⟩
      ·obtain ⟨l, e2⟩ := key m' (by omega) es hes
       refine ⟨.mk k a (p.map UInt8.toNat) (nm.map UInt8.toNat) l, ?_⟩
       simp only [VM.dV, VM.dVf, VM.encT, e2]
       rfl
theorem sigTypes_laid {W : World} (h : laidMetH Tryz.prog Rows.sigTypesRow.laid W) : ∃ c t, W.heap[0]? = some (.cells c t (0, 0)) ∧ c = (AM.spaces.map fun z => Value.int .u8 z).toArray := by
 exact AM.space_laid (t := 182) (e := 5) h (by kernel_rfl) (by kernel_rfl) Tryz.spaceG (by kernel_rfl) (by kernel_rfl) (by kernel_rfl) (by kernel_rfl) (by kernel_rfl) (of_decide_eq_true (by kernel_rfl))
set_option maxRecDepth 100000 in
theorem sigTypes_lifted (os : Os) (started : os.Started) (H : Type) (enc : TypeId × Value → H) :
  ReturnsInHanded {} Tryz.checked os 4 .any (fun w args => (Rows.sigTypesSpec.pre enc Tryz.prog Tryz.f4 Rows.sigTypesRow.domain false w args ∧ laidMetH Tryz.prog Rows.sigTypesRow.laid w) ∧ sizedMet enc Tryz.prog Tryz.f4 (OpenSpec.ofChange Rows.sigTypesSpec) false w args)
   (Rows.sigTypesSpec.post enc Tryz.prog Tryz.f4 false true false false) := by
 refine returnsInHanded_of_change_and (C := Tryz.checked) (X := fun w _ => laidMetH Tryz.prog Rows.sigTypesRow.laid w) (fun _ _ _ hh h => h.of_heap hh) Tryz.own started (by kernel_rfl) Tryz.func4
  (ChangeSpec.witness_shaped (enc := enc) (C := Tryz.checked) (os := os) (X := fun w _ => laidMetH Tryz.prog Rows.sigTypesRow.laid w) false (World.laidAll Tryz.prog os Rows.sigTypesRow.laid) #[.agg #[.slice none 0 0, .slice none 0 0, .slice none 0 0, .slice none 0 0, .slice none 0 0], .agg #[.int .i64 0, .int .i64 0, .string ByteArray.empty, .string ByteArray.empty, .slice none 0 0]] 8 (World.laidAll_os _ _ _)
   (World.shaped_of_ZipB (by kernel_rfl) (by kernel_rfl)) (by kernel_rfl) (by kernel_rfl) (by kernel_rfl)
   (by rw [MakeChecks.laidMetH_plain _ _ _ (by kernel_rfl)]; exact laidMet_laidAll _ (by kernel_rfl) (by kernel_rfl))) ?_
 intro W base args ds gs before hval0 hW hcnd hsz hL _
 have hval : ∀ (j : Nat) t v, Tryz.f4.params[j]? = some t → args[j]? = some v → Value.okWide Tryz.prog W .any base t v := hval0
 have hW' := hW
 obtain ⟨p, q, hA0, hV, rfl, hfz, hnd⟩ := hW
 have hA : DataW.TrodAll enc Tryz.prog W 0 (fun _ => true) true Tryz.f4.params.toList args.toList ds p := hA0
 rw [Tryz.params4] at hA hval
 obtain ⟨v0, v1, d0, d1, p0, p1, rfl, rfl, rfl, h0, h1⟩ := trodAll_two hA
 obtain ⟨rfl, rfl⟩ := trodVars_none hV
 obtain ⟨fu0, h0⟩ := h0
 obtain ⟨r0, _, t0⟩ := VM.read_ok Tryz.flat fu0 _ _ _ (by decide) h0
 have k0 := hval 0 32 v0 rfl rfl
 have sz0 : ∀ w ∈ d0.weights Tryz.prog 32, w ≤ reachBytes := fun w hw => by
  have := List.all_eq_true.1 hsz w (DataW.weights_mem_each (j := 0) (t := 32) (d := d0) (by rw [Tryz.params4]; rfl) rfl w hw)
  simpa using this
 obtain ⟨fu1, h1⟩ := h1
 obtain ⟨r1, _, t1⟩ := VM.read_ok Tryz.flat fu1 _ _ _ (by decide) h1
 have k1 := hval 1 35 v1 rfl rfl
 have sz1 : ∀ w ∈ d1.weights Tryz.prog 35, w ≤ reachBytes := fun w hw => by
  have := List.all_eq_true.1 hsz w (DataW.weights_mem_each (j := 1) (t := 35) (d := d1) (by rw [Tryz.params4]; rfl) rfl w hw)
  simpa using this
 obtain ⟨s, hs, ok⟩ := decSc fu0 d0 t0
 obtain ⟨x, hx⟩ := decT fu1 d1 t1
 have a0 := VM.arg_struct Tryz.underlying32 k0 r0 hs
 have a1 := VM.arg_struct Tryz.underlying35 k1 r1 hx
 obtain ⟨c, t, hb, hc⟩ := sigTypes_laid hL
 refine (VM.calls_tab (args' := #[v0, v1]) (VM.sigTypes_spec s ok x (fun nx lc => VM.awake_of Tryz.prOk Tryz.awake_run (by decide) rfl)) (by decide) hb hc (.cons _ _ _ _ a0 (.cons _ _ _ _ a1 .nil))).mono fun e W' ⟨E', v', he, hv, bel⟩ => ?_
 cases hv
 subst he
 exact ⟨_, rfl, ⟨_, _, _, [], _, _, hW', trodAll_mk1 (shut_bool (by kernel_rfl) true), VM.stays_of Tryz.flat bel (by decide) hW' hA0, hV, bel.frame _, fun h => by cases h⟩⟩
theorem sigTypes_row : Rows.SigTypesSaid :=
 OpenClaim.holds_of_wide 4 Tryz.f4 rfl rfl rfl rfl rfl rfl rfl ⟨rfl, rfl, rfl, rfl, rfl⟩ rfl rfl rfl rfl rfl (by kernel_rfl) Tryz.func4 sigTypes_closed
  (of_decide_eq_true (by kernel_rfl)) (by unfold Func.isWrapper; first | (rw [if_pos (by decide +kernel)]; kernel_rfl) | (rw [if_neg (by decide +kernel)]; exact ⟨rfl, rfl⟩))
  (fun os started H enc _ => sigTypes_lifted os started H enc)
theorem sigTypes_holds : Rows.SigTypesCardSaid :=
 Claim7.holds_tied_plain_at .later [] [.data, .data, .data, .sentinel, .sentinel, .listed, .data] true (true, "53f465b498444b397b1e26887f3b05f1ad70f9dbca69c0a79e6978a1dcaa6fc8") true
  sigTypes_row (fun _ h => by cases h) (by kernel_rfl) (fun _ h => by cases h) sigTypes_row_tie rfl ⟨rfl, rfl⟩ (by kernel_rfl) rfl
  (fun f fn hf hfn => by
   obtain rfl : f = 4 := Option.some.inj ((show Tryz.prog.funcNamed "quoin/quoinlaw10.SigTypes" = some 4 by kernel_rfl).symm.trans hf) |>.symm
   obtain rfl : fn = Tryz.f4 := (Option.some.inj (Tryz.func4.symm.trans hfn)).symm
   exact ⟨by kernel_rfl, fun j t ht => by
    rw [Tryz.params4] at ht
    have : t = 32 ∨ t = 35 := by
     rcases j with _ | _ | j
     ·left; simpa using ht.symm
     ·right; simpa using ht.symm
     ·simp at ht
    rcases this with rfl | rfl
    ·show Tryz.prog.wantsStandIn 32 = false; kernel_rfl
    ·show Tryz.prog.wantsStandIn 35 = false; kernel_rfl⟩)
  (by kernel_rfl)
#print axioms sigTypes_holds
end Go.Proofs.YthacfmmgcbjagaaGreatDoor
