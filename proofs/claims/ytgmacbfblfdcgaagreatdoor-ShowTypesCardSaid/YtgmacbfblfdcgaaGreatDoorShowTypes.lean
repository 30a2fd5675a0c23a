/- ShowTypes: the row and its card. -/
import Derived.Test.YtgmacbfblfdcgaaGreatDoorVtShowT
import Derived.Test.YtgmacbfblfdcgaaGreatDoorVmH
import Derived.Test.YtgmacbfblfdcgaaGreatDoorAwakeRun
import Derived.Test.YtgmacbfblfdcgaaGreatDoorCards
import Derived.Test.YtgmacbfblfdcgaaGreatDoorTie
import Derived.Test.YtgmacbfblfdcgaaGreatDoorRows
import Derived.ChangeMaps5
import Derived.ProofKit
import Derived.OpenShut
import Derived.SizedLaws
import Derived.LaidMore
import Derived.Lay
import Derived.SevenTiedAt
import Derived.Stop.Joined
namespace Go.Proofs.YtgmacbfblfdcgaaGreatDoor
open Go.ChangeShapes Go.WideShapes Go.ChangeAt Go.RowKit

theorem Tryz.flat : VM.flatB Tryz.prog [3, 9, 24, 22] = true := by kernel_rfl

theorem decodeT {H : Type} (n : Nat) : ∀ (d : DataW H), VM.TyD Tryz.prog n 24 d → (∀ w ∈ d.weights Tryz.prog 24, w ≤ reachBytes) → ∃ x : VM.TX, VM.dV d = VM.encT x ∧ VM.okT x := by
  induction n using Nat.strongRecOn with
  | _ n ih =>
  intro d h hw
  obtain ⟨xs, m, rfl, rfl, hx⟩ := h.st Tryz.underlying24
  have key : ∀ (k : Nat), k < m + 1 → ∀ es : List (DataW H), (∀ x ∈ es, VM.TyD Tryz.prog k 24 x) → (∀ w ∈ DataW.weightsAll Tryz.prog 24 es, w ≤ reachBytes) → ∃ l : List VM.TX, VM.dVs es = VM.encTs l ∧ VM.okTs l := by
    intro k hk es
    induction es with
    | nil => intro _ _; exact ⟨[], rfl, trivial⟩
    | cons y r ihr =>
      intro h1 h2
      simp only [DataW.weightsAll, List.mem_append] at h2
      obtain ⟨x, e1, o1⟩ := ih k hk y (h1 y (by simp)) (fun w h => h2 w (.inl h))
      obtain ⟨l, e2, o2⟩ := ihr (fun x h => h1 x (by simp [h])) (fun w h => h2 w (.inr h))
      exact ⟨x :: l, by simp only [VM.dVs, VM.encTs, e1, e2], o1, o2⟩
  cases hx with
  | cons h1 t => cases t with
    | cons h2 t => cases t with
      | cons h3 t => cases t with
        | cons h4 t => cases t with
          | cons h5 t =>
            cases t
            obtain ⟨k, rfl, _⟩ := h1.int Tryz.underlying3
            obtain ⟨a, rfl, _⟩ := h2.int Tryz.underlying3
            obtain ⟨p, rfl, _⟩ := h3.str Tryz.underlying9
            obtain ⟨nm, rfl, _⟩ := h4.str Tryz.underlying9
            simp only [DataW.weights, Tryz.underlying24, List.map_cons, List.map_nil, DataW.weightsEach, List.nil_append, List.append_nil, List.mem_append, List.mem_singleton] at hw
            have hp : (p.map UInt8.toNat).length ≤ VM.rch := by rw [List.length_map]; exact hw _ (.inl rfl)
            have hn : (nm.map UInt8.toNat).length ≤ VM.rch := by rw [List.length_map]; exact hw _ (.inr (.inl rfl))
            rcases h5.sl Tryz.underlying22 with rfl | ⟨es, sp, m', rfl, rfl, _, hes⟩
            · exact ⟨.mk k a (p.map UInt8.toNat) (nm.map UInt8.toNat) [], rfl, hp, hn, trivial⟩
            · obtain ⟨l, e2, o2⟩ := key m' (by omega) es hes (fun w h => hw w (.inr (.inr (by
                simp only [DataW.weights, Tryz.underlying22, List.mem_cons, List.mem_append]; exact .inr (.inl h)))))
              refine ⟨.mk k a (p.map UInt8.toNat) (nm.map UInt8.toNat) l, ?_, hp, hn, o2⟩
              simp only [VM.dV, VM.dVf, VM.encT, e2]
              rfl

theorem showTypes_laid {W : World} (h : laidMetH Tryz.prog Rows.showTypesRow.laid W) : ∃ c t, W.heap[0]? = some (.cells c t (0, 0)) ∧ c = (AM.spaces.map fun z => Value.int .u8 z).toArray := by
  exact AM.space_laid (t := 145) (e := 5) h (by kernel_rfl) (by kernel_rfl) Tryz.spaceG (by kernel_rfl) (by kernel_rfl) (by kernel_rfl) (by kernel_rfl) (by kernel_rfl) (of_decide_eq_true (by kernel_rfl))

set_option maxRecDepth 100000 in
theorem showTypes_lifted (os : Os) (started : os.Started) (H : Type) (enc : TypeId × Value → H) :
    ReturnsInHanded {} Tryz.checked os 3 .any (fun w args => (Rows.showTypesSpec.pre enc Tryz.prog Tryz.f3 Rows.showTypesRow.domain false w args ∧ laidMetH Tryz.prog Rows.showTypesRow.laid w) ∧ sizedMet enc Tryz.prog Tryz.f3 (OpenSpec.ofChange Rows.showTypesSpec) false w args)
      (Rows.showTypesSpec.post enc Tryz.prog Tryz.f3 false true false false) := by
  refine returnsInHanded_of_change_and (C := Tryz.checked) (X := fun w _ => laidMetH Tryz.prog Rows.showTypesRow.laid w) (fun _ _ _ hh h => h.of_heap hh) Tryz.own started (by kernel_rfl) Tryz.func3
    (ChangeSpec.witness_shaped (enc := enc) (C := Tryz.checked) (os := os) (X := fun w _ => laidMetH Tryz.prog Rows.showTypesRow.laid w) false (World.laidAll Tryz.prog os Rows.showTypesRow.laid) #[.agg #[.int .i64 0, .int .i64 0, .string ByteArray.empty, .string ByteArray.empty, .slice none 0 0]] 8 (World.laidAll_os _ _ _)
      (World.shaped_of_ZipB (by kernel_rfl) (by kernel_rfl)) (by kernel_rfl) (by kernel_rfl) (by kernel_rfl)
      (by rw [MakeChecks.laidMetH_plain _ _ _ (by kernel_rfl)]; exact laidMet_laidAll _ (by kernel_rfl) (by kernel_rfl))) ?_
  intro W base args ds gs before hval0 hW hcnd hsz hL _
  have hval : ∀ (j : Nat) t v, Tryz.f3.params[j]? = some t → args[j]? = some v → Value.okWide Tryz.prog W .any base t v := hval0
  have hW' := hW
  obtain ⟨p, q, hA0, hV, rfl, hfz, hnd⟩ := hW
  have hA : DataW.TrodAll enc Tryz.prog W 0 (fun _ => true) true Tryz.f3.params.toList args.toList ds p := hA0
  rw [Tryz.params3] at hA hval
  obtain ⟨v0, d0, rfl, rfl, h0⟩ := trodAll_one hA
  obtain ⟨rfl, rfl⟩ := trodVars_none hV
  obtain ⟨fu0, h0⟩ := h0
  obtain ⟨r0, _, t0⟩ := VM.read_ok Tryz.flat fu0 _ _ _ (by decide) h0
  have k0 := hval 0 24 v0 rfl rfl
  have hsz' : ∀ w ∈ d0.weights Tryz.prog 24, w ≤ reachBytes := fun w hw => by
    have := List.all_eq_true.1 hsz w (DataW.weights_mem_each (j := 0) (t := 24) (d := d0) (by rw [Tryz.params3]; rfl) rfl w hw)
    simpa using this
  obtain ⟨x, hx, ok⟩ := decodeT fu0 d0 t0 hsz'
  have a0 := VM.arg_struct Tryz.underlying24 k0 r0 hx
  obtain ⟨c, t, hb, hc⟩ := showTypes_laid hL
  refine (VM.calls_tab (args' := #[v0]) (VM.showTypes_spec x ok (fun nx lc => VM.awake_of Tryz.prOk Tryz.awake_run (by decide) rfl)) (by decide) hb hc (.cons _ _ _ _ a0 .nil)).mono fun e W' ⟨E', v', he, hv, bel⟩ => ?_
  cases hv
  subst he
  exact ⟨_, rfl, ⟨_, _, _, [], _, _, hW', trodAll_mk1 (shut_bool (by kernel_rfl) true), VM.stays_of Tryz.flat bel (by decide) hW' hA0, hV, bel.frame _, fun h => by cases h⟩⟩

theorem showTypes_closed : joinedFacts Tryz.prog 3 Tryz.f3 Rows.showTypesSpec Rows.showTypesRow = true := by kernel_rfl

theorem showTypes_row : Rows.ShowTypesSaid :=
  OpenClaim.holds_of_wide 3 Tryz.f3 rfl rfl rfl rfl rfl rfl rfl ⟨rfl, rfl, rfl, rfl, rfl⟩ rfl rfl rfl rfl rfl (by kernel_rfl) Tryz.func3 showTypes_closed
    (of_decide_eq_true (by kernel_rfl)) (by unfold Func.isWrapper; first | (rw [if_pos (by decide +kernel)]; kernel_rfl) | (rw [if_neg (by decide +kernel)]; exact ⟨rfl, rfl⟩))
    (fun os started H enc _ => showTypes_lifted os started H enc)

theorem showTypes_holds : Rows.ShowTypesCardSaid :=
  Claim7.holds_tied_plain_at .later [] [.data, .data, .data, .sentinel, .sentinel, .listed, .data] true (true, "6e41eccb7b87157741398bec212422e76de14094b9b0c72bf2d7b451b0473db8") true
    showTypes_row (fun _ h => by cases h) (by kernel_rfl) (fun _ h => by cases h) showTypes_row_tie rfl ⟨rfl, rfl⟩ (by kernel_rfl) rfl
    (fun f fn hf hfn => by
      obtain rfl : f = 3 := Option.some.inj ((show Tryz.prog.funcNamed "quoin/quoinlaw07.ShowTypes" = some 3 by kernel_rfl).symm.trans hf) |>.symm
      obtain rfl : fn = Tryz.f3 := (Option.some.inj (Tryz.func3.symm.trans hfn)).symm
      exact ⟨by kernel_rfl, fun j t ht => by
        rw [Tryz.params3] at ht
        have : t = 24 := by
          cases j with
          | zero => simpa using ht.symm
          | succ j => simp at ht
        subst this
        show Tryz.prog.wantsStandIn 24 = false
        kernel_rfl⟩)
    (by kernel_rfl)
#print axioms showTypes_holds
end Go.Proofs.YtgmacbfblfdcgaaGreatDoor
