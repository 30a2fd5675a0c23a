/- laid for this seat: VtLaw3 -/
import Derived.Test.YtonlemmcdecibaaVtLaw4
import Derived.Test.YtonlemmcdecibaaVtScan6
import Derived.Test.YtonlemmcdecibaaVtRef3
/- CachefileScans: what any bytes hold as records, and what is kept of that, is what the document says. -/
set_option maxRecDepth 100000
set_option linter.unusedVariables false
set_option linter.unusedSimpArgs false
namespace Go.VM
open Go.RowKit
def zOf (e : Ent) : EZ := ⟨e.k, e.v, e.live, e.last⟩
theorem zOf_enc (l : List Ent) : l.map encE = (l.map zOf).map encZ := by rw [List.map_map]; rfl
def Sm (n : Nat) (l : List Ent) : Prop := ∀ e ∈ l, e.k.length ≤ n ∧ e.v.length ≤ n
theorem takeF_sm (b : List Nat) (a n : Nat) (w : Bool) : (takeF b a w n).1.length ≤ b.length := by
 unfold takeF
 split
 ·simp only [List.length_take, List.length_drop]; omega
 ·simp
theorem textF_sm (b : List Nat) (a : Nat) (w : Bool) : (textF b a w).1.length ≤ b.length := takeF_sm b _ _ _
theorem recF_sm {b : List Nat} {a kind : Nat} {x : Rec} {w : Bool} (h : recF b a kind = some (x, w)) : x.k.length ≤ b.length ∧ x.v.length ≤ b.length := by
 unfold recF at h
 split at h
 ·cases h; exact ⟨textF_sm _ _ _, textF_sm _ _ _⟩
 ·split at h
  ·cases h; simp
  ·cases h
theorem addF_sm {n : Nat} {s s' : Sc} {x : Rec} (hs : Sm n s.l) (hx : x.k.length ≤ n ∧ x.v.length ≤ n) (h : addF s x = some s') : Sm n s'.l := by
 unfold addF at h
 split at h
 ·cases h
  intro e he
  rcases List.mem_append.1 he with he | he
  ·exact hs e he
  ·simp at he; subst he; exact hx
 ·split at h
  ·cases h
  ·rename_i e0 he0
   split at h
   ·cases h
    intro e he
    rcases List.mem_or_eq_of_mem_set he with he | he
    ·exact hs e he
    ·subst he; exact hs e0 (List.mem_of_getElem? he0)
   ·cases h
theorem scanL_sm (b : List Nat) : ∀ (m a : Nat) (s : Sc), Sm b.length s.l → Sm b.length (scanL b m a s).1.l
 | 0, a, s, h => h
 | m + 1, a, s, h => by
  unfold scanL
  split
  ·exact h
  ·split
   ·exact h
   ·exact h
   ·rename_i x hrec
    split
    ·exact h
    ·rename_i s' hadd
     exact scanL_sm b m x.e s' (addF_sm h (recF_sm hrec) hadd)
theorem scanR_sm (b : List Nat) : Sm b.length (scanR b).1.l := scanL_sm b _ 0 sc0 (fun e he => by simp [sc0] at he)
theorem addF_cnt {s s' : Sc} {x : Rec} (h : addF s x = some s') : s'.l.length ≤ s.l.length + 1 := by
 unfold addF at h
 split at h
 ·cases h; simp
 ·split at h
  ·cases h
  ·split at h
   ·cases h; simp
   ·cases h
theorem scanL_cnt (b : List Nat) (h8 : ∀ x ∈ b, x < 256) : ∀ (m a : Nat) (s : Sc), s.l.length ≤ a → a ≤ b.length → (scanL b m a s).1.l.length ≤ b.length
 | 0, a, s, h, h2 => Nat.le_trans h h2
 | m + 1, a, s, h, h2 => by
  unfold scanL
  split
  ·exact Nat.le_trans h h2
  ·rename_i kind hk
   split
   ·exact Nat.le_trans h h2
   ·exact Nat.le_trans h h2
   ·rename_i x hrec
    split
    ·exact Nat.le_trans h h2
    ·rename_i s' hadd
     have ok := recF_ok hk h8 hrec
     have := addF_cnt hadd
     exact scanL_cnt b h8 m x.e s' (by omega) ok.2.1
theorem scans_core (b : List Nat) (most bytes : Int) (h8 : ∀ x ∈ b, x < 256) (hb1 : -9223372036854775808 ≤ bytes) (hb2 : bytes < 9223372036854775808) (haw : ∀ h, SCall Go.Proofs.Try.prog [] 11 [] none h (.ret (.bool true)) none h) :
  SCall Go.Proofs.Try.prog [] 3 [.str b, .int .i64 most, .int .i64 bytes] none ⟨1000, og [], []⟩ (.ret (.bool true)) none ⟨1000, og [], []⟩ := by
 refine SCall.listed (fn := Go.Proofs.Try.f3) (by kernel_rfl) res3 (by kernel_rfl) (by kernel_rfl) (Nat.le_refl _) rfl (trivial) trivial ?_
 unfold rc3
 refine WR.seq (WR.reg (WQ.runS [] 1000 _ _ _ _ rfl (WQ.nilS ?_)))
 refine WR.seq (WR.reg ?_)
 refine WQ.callH rfl rfl rfl rfl rfl (haw _) .base rfl (WQ.runS [] 1000 _ _ _ _ rfl (WQ.nilS ?_))
 refine WR.seq (WR.seq (WR.reg (WQ.runS [] 1000 _ _ _ _ rfl (WQ.nilS ?_))))
 refine WR.cond rfl (fun h1 => ?_) (fun h1 => ?_)
 ·repeat (first | refine WR.seq ?_ | refine WR.block ?_ | refine WR.scope ?_ | refine WR.skip ?_ | refine WR.exit ?_ | refine WR.condT rfl ?_ | refine WR.condF rfl ?_ | refine WR.reg (WQ.runS [] 1000 _ _ _ _ rfl ?_) | refine WQ.nilS ?_ | refine WR.dreg hmix (DW.runS [] 1000 _ _ _ _ _ _ rfl ?_))
  refine WR.ret ⟨rfl, rfl, ⟨_, rfl, VLe.refl _⟩, fun b _ => rfl⟩
 have h1 := of_decide_eq_false h1
 have hlen : b.length ≤ 4000 := by omega
 have hcnt : (scanR b).1.l.length ≤ b.length := scanL_cnt b h8 _ 0 sc0 (Nat.le_refl _) (Nat.zero_le _)
 have hsm := scanR_sm b
 have hv : scanV b = .tup [.lst (((scanR b).1.l.map zOf).map encZ) .unk, .int .i64 (scanR b).1.good] := by unfold scanV; rw [zOf_enc]
 have hd : scanDV b = .tup [.lst (((scanR b).1.l.map zOf).map encZ) .unk, .int .i64 (scanR b).1.good] := by rw [scanDV_eq b h8, hv]
 have s1 := scan_spec b hlen h8
 have s2 := scanD_spec b hlen h8
 rw [hv] at s1
 rw [hd] at s2
 have hL : ((scanR b).1.l.map zOf).length ≤ 4000 := by rw [List.length_map]; omega
 have hsz : ∀ e ∈ (scanR b).1.l.map zOf, sizeZ e ≤ 1000000000 := by
  intro e he
  obtain ⟨e0, h0, rfl⟩ := List.mem_map.1 he
  have := hsm e0 h0
  show e0.k.length + e0.v.length ≤ _
  omega
 generalize (scanR b).1.l.map zOf = L at *
 generalize (scanR b).1.good = g at *
 refine WR.skip ?_
 refine WR.seq (WR.reg (WQ.runS [] 1 _ _ _ _ rfl ?_))
 refine WQ.callH rfl rfl rfl rfl rfl (s1 _) .base rfl (WQ.runS [] 1000 _ _ _ _ rfl (WQ.nilS ?_))
 refine WR.seq (WR.reg (WQ.runS [] 1 _ _ _ _ rfl ?_))
 refine WQ.callH rfl rfl rfl rfl rfl (s2 _) .base rfl (WQ.runS [] 1000 _ _ _ _ rfl (WQ.nilS ?_))
 refine WR.seq (WR.reg (WQ.runS [] 2 _ _ _ _ rfl ?_))
 refine WQ.callH rfl rfl rfl rfl rfl (sameZ_spec L (by omega) _) .base rfl (WQ.runS [] 1000 _ _ _ _ rfl (WQ.nilS ?_))
 refine WR.seq (WR.reg (WQ.runS [] 3 _ _ _ _ rfl ?_))
 refine WQ.callH rfl rfl rfl rfl rfl (runP_spec L most bytes hL hsz hb1 hb2 _) .base rfl (WQ.runS [] 3 _ _ _ _ rfl ?_)
 refine WQ.callH rfl rfl rfl rfl rfl (runR_spec L most bytes hL hsz hb2 _) .base rfl ?_
 have hlen2 : (runR L most bytes).length ≤ 1000000 := by rw [← run_same]; have := pickF_len L (keptF L most bytes); have := keptF_len L most bytes; unfold runP; omega
 rw [run_same]
 refine WQ.callH rfl rfl rfl rfl rfl (sameZ_spec (runR L most bytes) hlen2 _) .base rfl (WQ.runS [] 1000 _ _ _ _ rfl (WQ.nilS ?_))
 refine WR.seq (WR.reg (WQ.runS [] 8 _ _ _ _ rfl ?_))
 rw [show decide ((g : Int) = (g : Int)) = true from decide_eq_true rfl]
 refine WQ.runS [] 1000 _ _ _ _ rfl (WQ.nilS ?_)
 refine WR.ret ⟨rfl, rfl, ⟨_, rfl, VLe.refl _⟩, fun b _ => rfl⟩
end Go.VM
