/- laid for this seat: VrMerge5 VrStable VrKept -/
import Derived.Test.YtonlemmcdecibaaVg06
import Derived.Test.YtonlemmcdecibaaVmR
section
/- Merging in place, as the library does it. -/
set_option maxRecDepth 100000
set_option linter.unusedVariables false
set_option linter.unusedSimpArgs false
namespace Go.VM
open Go.RowKit
theorem upF_len : ∀ (m k : Nat) (xs : List Nat), (upF m k xs).length = xs.length
 | 0, k, xs => rfl
 | m + 1, k, xs => by
  unfold upF
  split
  ·rw [upF_len m]; simp
  ·rfl
theorem dnF_len : ∀ (m k : Nat) (xs : List Nat), (dnF m k xs).length = xs.length
 | 0, k, xs => rfl
 | m + 1, k, xs => by
  unfold dnF
  split
  ·rw [dnF_len m]; simp
  ·rfl
theorem upF_mem : ∀ (m k : Nat) (xs : List Nat) (z : Nat), z ∈ upF m k xs → z ∈ xs
 | 0, k, xs, z, h => h
 | m + 1, k, xs, z, h => by
  unfold upF at h
  split at h
  ·rename_i x y hx hy
   have := upF_mem m (k + 1) _ z h
   rcases List.mem_or_eq_of_mem_set this with g | g
   ·rcases List.mem_or_eq_of_mem_set g with g | g
    ·exact g
    ·rw [g]; exact List.mem_of_getElem? hy
   ·rw [g]; exact List.mem_of_getElem? hx
  ·exact h
theorem dnF_mem : ∀ (m k : Nat) (xs : List Nat) (z : Nat), z ∈ dnF m k xs → z ∈ xs
 | 0, k, xs, z, h => h
 | m + 1, k, xs, z, h => by
  unfold dnF at h
  split at h
  ·rename_i x y hx hy
   have := dnF_mem m (k - 1) _ z h
   rcases List.mem_or_eq_of_mem_set this with g | g
   ·rcases List.mem_or_eq_of_mem_set g with g | g
    ·exact g
    ·rw [g]; exact List.mem_of_getElem? hy
   ·rw [g]; exact List.mem_of_getElem? hx
  ·exact h
theorem rotL_len (m : Nat) : ∀ (f i j : Nat) (xs : List Nat), (rotL m f i j xs).2.length = xs.length
 | 0, i, j, xs => rfl
 | f + 1, i, j, xs => by
  unfold rotL
  split
  ·rfl
  ·split
   ·rw [rotL_len m f, swG_len]
   ·rw [rotL_len m f, swG_len]
theorem rotL_mem (m : Nat) : ∀ (f i j : Nat) (xs : List Nat) (z : Nat), z ∈ (rotL m f i j xs).2 → z ∈ xs
 | 0, i, j, xs, z, h => h
 | f + 1, i, j, xs, z, h => by
  unfold rotL at h
  split at h
  ·exact h
  ·split at h
   ·exact swG_mem _ _ _ _ _ _ (rotL_mem m f _ _ _ z h)
   ·exact swG_mem _ _ _ _ _ _ (rotL_mem m f _ _ _ z h)
theorem rotF_len (a m b : Nat) (xs : List Nat) : (rotF a m b xs).length = xs.length := by unfold rotF; rw [swG_len, rotL_len]
theorem rotF_mem (a m b : Nat) (xs : List Nat) (z : Nat) (h : z ∈ rotF a m b xs) : z ∈ xs := rotL_mem _ _ _ _ _ _ (swG_mem _ _ _ _ _ _ h)
def cutF (K : Nat → Int) (a m b : Nat) (xs : List Nat) : Nat :=
 let mid := (a + b) / 2
 bsH K (mid + m - 1) xs (b - a + 1) (if m > mid then mid + m - b else a) (if m > mid then mid else m)
def symF (K : Nat → Int) : Nat → Nat → Nat → Nat → List Nat → List Nat
 | 0, _, _, _, xs => xs
 | f + 1, a, m, b, xs =>
  if m - a = 1 then
   match xs[a]? with
   | some y => upF (bsF K y xs (b - m + 1) m b - 1 - a) a xs
   | none => xs
  else if b - m = 1 then
   match xs[m]? with
   | some y => dnF (m - bsG K y xs (m - a + 1) a m) m xs
   | none => xs
  else
   let mid := (a + b) / 2
   let s := cutF K a m b xs
   let e := mid + m - s
   let x1 := if s < m ∧ m < e then rotF s m e xs else xs
   let x2 := if a < s ∧ s < mid then symF K f a s mid x1 else x1
   if mid < e ∧ e < b then symF K f mid e b x2 else x2
theorem symF_len (K : Nat → Int) : ∀ (f a m b : Nat) (xs : List Nat), (symF K f a m b xs).length = xs.length
 | 0, _, _, _, xs => rfl
 | f + 1, a, m, b, xs => by
  unfold symF
  split
  ·split
   ·exact upF_len _ _ _
   ·rfl
  ·split
   ·split
    ·exact dnF_len _ _ _
    ·rfl
   ·simp only
    split <;> (try rw [symF_len K f]) <;> split <;> (try rw [symF_len K f]) <;> split <;> first | exact rotF_len _ _ _ _ | rfl
theorem symF_mem (K : Nat → Int) : ∀ (f a m b : Nat) (xs : List Nat) (z : Nat), z ∈ symF K f a m b xs → z ∈ xs
 | 0, _, _, _, xs, z, h => h
 | f + 1, a, m, b, xs, z, h => by
  unfold symF at h
  split at h
  ·split at h
   ·exact upF_mem _ _ _ _ h
   ·exact h
  ·split at h
   ·split at h
    ·exact dnF_mem _ _ _ _ h
    ·exact h
   ·simp only at h
    have h1 : ∀ (c d : Prop) [Decidable c] [Decidable d], z ∈ (if c then symF K f a (cutF K a m b xs) ((a + b) / 2) (if d then rotF (cutF K a m b xs) m ((a + b) / 2 + m - cutF K a m b xs) xs else xs) else (if d then rotF (cutF K a m b xs) m ((a + b) / 2 + m - cutF K a m b xs) xs else xs)) → z ∈ xs := by
     intro c d _ _ h
     have h0 : ∀ (d : Prop) [Decidable d], z ∈ (if d then rotF (cutF K a m b xs) m ((a + b) / 2 + m - cutF K a m b xs) xs else xs) → z ∈ xs := by
      intro d _ h
      split at h
      ·exact rotF_mem _ _ _ _ _ h
      ·exact h
     split at h
     ·exact h0 _ (symF_mem K f _ _ _ _ z h)
     ·exact h0 _ h
    split at h
    ·exact h1 _ _ (symF_mem K f _ _ _ _ z h)
    ·exact h1 _ _ h
theorem bsF_rng (K : Nat → Int) (y : Nat) (xs : List Nat) : ∀ (f i j : Nat), i ≤ j → i ≤ bsF K y xs f i j ∧ bsF K y xs f i j ≤ j
 | 0, i, j, h => ⟨Nat.le_refl _, h⟩
 | f + 1, i, j, h => by
  unfold bsF
  split
  ·split
   ·split
    ·have := bsF_rng K y xs f ((i + j) / 2 + 1) j (by omega); omega
    ·have := bsF_rng K y xs f i ((i + j) / 2) (by omega); omega
   ·omega
  ·omega
theorem bsG_rng (K : Nat → Int) (y : Nat) (xs : List Nat) : ∀ (f i j : Nat), i ≤ j → i ≤ bsG K y xs f i j ∧ bsG K y xs f i j ≤ j
 | 0, i, j, h => ⟨Nat.le_refl _, h⟩
 | f + 1, i, j, h => by
  unfold bsG
  split
  ·split
   ·split
    ·have := bsG_rng K y xs f i ((i + j) / 2) (by omega); omega
    ·have := bsG_rng K y xs f ((i + j) / 2 + 1) j (by omega); omega
   ·omega
  ·omega
theorem bsH_rng (K : Nat → Int) (p : Nat) (xs : List Nat) : ∀ (f i j : Nat), i ≤ j → i ≤ bsH K p xs f i j ∧ bsH K p xs f i j ≤ j
 | 0, i, j, h => ⟨Nat.le_refl _, h⟩
 | f + 1, i, j, h => by
  unfold bsH
  split
  ·split
   ·split
    ·have := bsH_rng K p xs f i ((i + j) / 2) (by omega); omega
    ·have := bsH_rng K p xs f ((i + j) / 2 + 1) j (by omega); omega
   ·omega
  ·omega
theorem cutF_rng (K : Nat → Int) (a m b : Nat) (xs : List Nat) (h1 : a < m) (h2 : m < b) : a ≤ cutF K a m b xs ∧ cutF K a m b xs ≤ m ∧ cutF K a m b xs ≤ (a + b) / 2 ∧ (a + b) / 2 + m ≤ cutF K a m b xs + b := by
 unfold cutF
 simp only
 by_cases h : m > (a + b) / 2
 ·rw [if_pos h, if_pos h]
  have := bsH_rng K ((a + b) / 2 + m - 1) xs (b - a + 1) ((a + b) / 2 + m - b) ((a + b) / 2) (by omega)
  omega
 ·rw [if_neg h, if_neg h]
  have := bsH_rng K ((a + b) / 2 + m - 1) xs (b - a + 1) a m (by omega)
  omega
theorem symF_step (K : Nat → Int) (f a m b : Nat) (xs : List Nat) (mid s e : Nat) (x1 x2 : List Nat) (q1 : ¬ m - a = 1) (q2 : ¬ b - m = 1) (hmid : mid = (a + b) / 2) (hs : s = cutF K a m b xs) (he : e = mid + m - s)
  (h1 : x1 = if s < m ∧ m < e then rotF s m e xs else xs) (h2 : x2 = if a < s ∧ s < mid then symF K f a s mid x1 else x1) :
  symF K (f + 1) a m b xs = if mid < e ∧ e < b then symF K f mid e b x2 else x2 := by
 subst h2 h1 he hs hmid
 rw [symF, if_neg q1, if_neg q2]
noncomputable def fr83 : Fr := ⟨Go.Proofs.Try.f83.ntmps, none, 83⟩
def eTm (a m b mid s e n : Nat) : TM := [(0, .v (.sl 1002 0 n (.op 1))), (1, .v (.int .i64 a)), (2, .v (.int .i64 m)), (3, .v (.int .i64 b)), (4, .v (.fn (.func 66) [] [.ptr 1001 0])), (18, .v (.int .i64 mid)), (20, .v (.int .i64 s)), (24, .v (.int .i64 e))]
def Sym (L : List EZ) (K : Nat → Int) (n f : Nat) : Prop := ∀ (a m b : Nat) (xs : List Nat), b - a ≤ f → a < m → m < b → b ≤ n → xs.length = n → (∀ x ∈ xs, x < L.length) →
  SCall Go.Proofs.Try.prog [] 83 [.sl 1002 0 n (.op 1), .int .i64 a, .int .i64 m, .int .i64 b, .fn (.func 66) [] [.ptr 1001 0]] none ⟨1003, og (sol L xs), []⟩ (.ret (.tup [])) none ⟨1003, og (sol L (symF K f a m b xs)), []⟩
theorem sym_j5 {QN : S → Prop} {QX : X → S → Prop} (L : List EZ) (K : Nat → Int) (n f a m b mid s e : Nat) (ih : Sym L K n f) (hn : n ≤ 100000) (hf : b - mid ≤ f) (hb : b ≤ n) (xs : List Nat) (hlen : xs.length = n) (hin : ∀ x ∈ xs, x < L.length)
  (hx : ∀ tm, QN (SL.toS ⟨tm, [], none, 1003, sol L (if mid < e ∧ e < b then symF K f mid e b xs else xs), []⟩)) :
  WR Go.Proofs.Try.prog [] fr83 rc83_J5 (SL.toS ⟨eTm a m b mid s e n, [], none, 1003, sol L xs, []⟩) QN QX := by
 unfold rc83_J5
 refine WR.seq (WR.reg (WQ.runS [] 4 _ _ _ _ rfl ?_))
 by_cases h1 : mid < e
 ·rw [show decide ((mid : Int) < (e : Int)) = true from decide_eq_true (by omega)]
  refine WQ.runS [] 1000 _ _ _ _ rfl (WQ.nilS ?_)
  by_cases h2 : e < b
  ·rw [if_pos ⟨h1, h2⟩] at hx
   rw [show decide ((e : Int) < (b : Int)) = true from decide_eq_true (by omega)]
   refine WR.condT rfl (WR.reg (WQ.runS [] 5 _ _ _ _ rfl ?_))
   refine WQ.callH rfl rfl rfl rfl rfl (ih mid e b xs hf h1 h2 hb hlen hin) .base rfl (WQ.runS [] 1000 _ _ _ _ rfl (WQ.nilS ?_))
   exact hx _
  ·rw [if_neg (by omega)] at hx
   rw [show decide ((e : Int) < (b : Int)) = false from decide_eq_false (by omega)]
   refine WR.condF rfl (WR.skip ?_)
   exact hx _
 ·rw [if_neg (by omega)] at hx
  rw [show decide ((mid : Int) < (e : Int)) = false from decide_eq_false (by omega)]
  refine WQ.runS [] 1000 _ _ _ _ rfl (WQ.nilS ?_)
  refine WR.condF rfl (WR.skip ?_)
  exact hx _
theorem sym_j6 {QN : S → Prop} {QX : X → S → Prop} (L : List EZ) (K : Nat → Int) (n f a m b mid s e : Nat) (ih : Sym L K n f) (hn : n ≤ 100000) (hf : b - mid ≤ f) (hf2 : mid - a ≤ f) (hb : b ≤ n) (hmb : mid ≤ b) (xs : List Nat) (hlen : xs.length = n) (hin : ∀ x ∈ xs, x < L.length)
  (x2 : List Nat) (he : x2 = if a < s ∧ s < mid then symF K f a s mid xs else xs)
  (hx : ∀ tm, QN (SL.toS ⟨tm, [], none, 1003, sol L (if mid < e ∧ e < b then symF K f mid e b x2 else x2), []⟩)) :
  WR Go.Proofs.Try.prog [] fr83 rc83_J6 (SL.toS ⟨eTm a m b mid s e n, [], none, 1003, sol L xs, []⟩) QN QX := by
 have hend : ∀ tm, SW [] fr83 (SL.toS ⟨tm, [], none, 1003, sol L x2, []⟩) (SL.toS ⟨eTm a m b mid s e n, [], none, 1003, sol L x2, []⟩) → WR Go.Proofs.Try.prog [] fr83 rc83_J5 (SL.toS ⟨tm, [], none, 1003, sol L x2, []⟩) QN QX := by
  intro tm hw
  refine WR.weak hw (sym_j5 L K n f a m b mid s e ih hn hf hb x2 ?_ ?_ hx)
  ·rw [he]; split
   ·rw [symF_len]; exact hlen
   ·exact hlen
  ·rw [he]; intro x hx'; split at hx'
   ·exact hin x (symF_mem K f _ _ _ _ x hx')
   ·exact hin x hx'
 unfold rc83_J6
 refine WR.seq (WR.seq (WR.reg (WQ.runS [] 4 _ _ _ _ rfl ?_)))
 by_cases h1 : a < s
 ·rw [show decide ((a : Int) < (s : Int)) = true from decide_eq_true (by omega)]
  refine WQ.runS [] 1000 _ _ _ _ rfl (WQ.nilS ?_)
  by_cases h2 : s < mid
  ·rw [if_pos ⟨h1, h2⟩] at he
   rw [show decide ((s : Int) < (mid : Int)) = true from decide_eq_true (by omega)]
   refine WR.condT rfl (WR.reg (WQ.runS [] 5 _ _ _ _ rfl ?_))
   refine WQ.callH rfl rfl rfl rfl rfl (ih a s mid xs hf2 h1 h2 (by omega) hlen hin) .base rfl (WQ.runS [] 1000 _ _ _ _ rfl (WQ.nilS ?_))
   rw [← he]
   refine hend _ ?_
   refine SW.tellR ?_ ?_
   ·repeat (first | exact .nil | refine .cons rfl (.v (VLe.refl _)) ?_ | refine .cons rfl (.l _ _ rfl) ?_ | refine .cons rfl (.v (VLe.unk _ _)) ?_)
   ·repeat (first | exact .nil | refine .cons rfl (.inl rfl) ?_)
  ·rw [if_neg (by omega)] at he
   rw [show decide ((s : Int) < (mid : Int)) = false from decide_eq_false (by omega)]
   refine WR.condF rfl (WR.skip ?_)
   rw [← he]
   refine hend _ ?_
   refine SW.tellR ?_ ?_
   ·repeat (first | exact .nil | refine .cons rfl (.v (VLe.refl _)) ?_ | refine .cons rfl (.l _ _ rfl) ?_ | refine .cons rfl (.v (VLe.unk _ _)) ?_)
   ·repeat (first | exact .nil | refine .cons rfl (.inl rfl) ?_)
 ·rw [if_neg (by omega)] at he
  rw [show decide ((a : Int) < (s : Int)) = false from decide_eq_false (by omega)]
  refine WQ.runS [] 1000 _ _ _ _ rfl (WQ.nilS ?_)
  refine WR.condF rfl (WR.skip ?_)
  rw [← he]
  refine hend _ ?_
  refine SW.tellR ?_ ?_
  ·repeat (first | exact .nil | refine .cons rfl (.v (VLe.refl _)) ?_ | refine .cons rfl (.l _ _ rfl) ?_ | refine .cons rfl (.v (VLe.unk _ _)) ?_)
  ·repeat (first | exact .nil | refine .cons rfl (.inl rfl) ?_)
theorem sym_j7 {QN : S → Prop} {QX : X → S → Prop} (L : List EZ) (K : Nat → Int) (n f a m b mid s e : Nat) (ih : Sym L K n f) (hn : n ≤ 100000) (hf : b - mid ≤ f) (hf2 : mid - a ≤ f) (hb : b ≤ n) (hmb : mid ≤ b) (hsm : s ≤ m) (hee : e = mid + m - s) (hm : m ≤ n) (heb : e ≤ b) (xs : List Nat) (hlen : xs.length = n) (hin : ∀ x ∈ xs, x < L.length)
  (x1 x2 : List Nat) (he1 : x1 = if s < m ∧ m < e then rotF s m e xs else xs) (he : x2 = if a < s ∧ s < mid then symF K f a s mid x1 else x1)
  (hx : ∀ tm, QN (SL.toS ⟨tm, [], none, 1003, sol L (if mid < e ∧ e < b then symF K f mid e b x2 else x2), []⟩)) :
  WR Go.Proofs.Try.prog [] fr83 rc83_J7 (SL.toS ⟨[(0, .v (.sl 1002 0 n (.op 1))), (1, .v (.int .i64 a)), (2, .v (.int .i64 m)), (3, .v (.int .i64 b)), (4, .v (.fn (.func 66) [] [.ptr 1001 0])), (18, .v (.int .i64 mid)), (19, .v (.int .i64 (mid + m : Nat))), (20, .v (.int .i64 s))], [], none, 1003, sol L xs, []⟩) QN QX := by
 have hend : ∀ tm, SW [] fr83 (SL.toS ⟨tm, [], none, 1003, sol L x1, []⟩) (SL.toS ⟨eTm a m b mid s e n, [], none, 1003, sol L x1, []⟩) → WR Go.Proofs.Try.prog [] fr83 rc83_J6 (SL.toS ⟨tm, [], none, 1003, sol L x1, []⟩) QN QX := by
  intro tm hw
  refine WR.weak hw (sym_j6 L K n f a m b mid s e ih hn hf hf2 hb hmb x1 ?_ ?_ x2 he hx)
  ·rw [he1]; split
   ·rw [rotF_len]; exact hlen
   ·exact hlen
  ·rw [he1]; intro x hx'; split at hx'
   ·exact hin x (rotF_mem _ _ _ _ x hx')
   ·exact hin x hx'
 unfold rc83_J7
 refine WR.seq (WR.reg (WQ.runS [] 1000 _ _ _ _ rfl (WQ.nilS ?_)))
 rw [show IntKind.i64.wrap (((mid + m : Nat) : Int) - (s : Int)) = (e : Int) from by rw [wrap64 (by omega) (by omega)]; omega]
 refine WR.seq (WR.seq (WR.reg (WQ.runS [] 4 _ _ _ _ rfl ?_)))
 by_cases h1 : s < m
 ·rw [show decide ((s : Int) < (m : Int)) = true from decide_eq_true (by omega)]
  refine WQ.runS [] 1000 _ _ _ _ rfl (WQ.nilS ?_)
  by_cases h2 : m < e
  ·rw [if_pos ⟨h1, h2⟩] at he1
   rw [show decide ((m : Int) < (e : Int)) = true from decide_eq_true (by omega)]
   refine WR.condT rfl (WR.reg (WQ.runS [] 5 _ _ _ _ rfl ?_))
   refine WQ.callH rfl rfl rfl rfl rfl (rot_core L s m e n hn h1 h2 (by omega) xs hlen) .base rfl (WQ.runS [] 1000 _ _ _ _ rfl (WQ.nilS ?_))
   rw [← he1]
   refine hend _ ?_
   refine SW.tellR ?_ ?_
   ·repeat (first | exact .nil | refine .cons rfl (.v (VLe.refl _)) ?_ | refine .cons rfl (.l _ _ rfl) ?_ | refine .cons rfl (.v (VLe.unk _ _)) ?_)
   ·repeat (first | exact .nil | refine .cons rfl (.inl rfl) ?_)
  ·rw [if_neg (by omega)] at he1
   rw [show decide ((m : Int) < (e : Int)) = false from decide_eq_false (by omega)]
   refine WR.condF rfl (WR.skip ?_)
   rw [← he1]
   refine hend _ ?_
   refine SW.tellR ?_ ?_
   ·repeat (first | exact .nil | refine .cons rfl (.v (VLe.refl _)) ?_ | refine .cons rfl (.l _ _ rfl) ?_ | refine .cons rfl (.v (VLe.unk _ _)) ?_)
   ·repeat (first | exact .nil | refine .cons rfl (.inl rfl) ?_)
 ·rw [if_neg (by omega)] at he1
  rw [show decide ((s : Int) < (m : Int)) = false from decide_eq_false (by omega)]
  refine WQ.runS [] 1000 _ _ _ _ rfl (WQ.nilS ?_)
  refine WR.condF rfl (WR.skip ?_)
  rw [← he1]
  refine hend _ ?_
  refine SW.tellR ?_ ?_
  ·repeat (first | exact .nil | refine .cons rfl (.v (VLe.refl _)) ?_ | refine .cons rfl (.l _ _ rfl) ?_ | refine .cons rfl (.v (VLe.unk _ _)) ?_)
  ·repeat (first | exact .nil | refine .cons rfl (.inl rfl) ?_)
theorem sym_core (L : List EZ) (K : Nat → Int) (n : Nat) (hn : n ≤ 100000) (hK : ∀ x e, L[x]? = some e → K x = e.last) : ∀ f, Sym L K n f := by
 intro f
 induction f with
 | zero => intro a m b xs h1 h2 h3; omega
 | succ f ih =>
  intro a m b xs hf h1 h2 h3 hlen hin
  refine SCall.listed (fn := Go.Proofs.Try.f83) (by kernel_rfl) res83 (by kernel_rfl) (by kernel_rfl) (Nat.le_refl _) rfl ((by exact ⟨flatZ_in _, ⟨(by show 1000 < 1003; decide), trivial⟩, ints_in _, trivial⟩)) trivial ?_
  unfold rc83
  refine WR.seq (WR.seq (WR.reg (WQ.runS [] 1000 _ _ _ _ rfl (WQ.nilS ?_))))
  rw [show IntKind.i64.wrap ((m : Int) - (a : Int)) = ((m - a : Nat) : Int) from by rw [wrap64 (by omega) (by omega)]; omega]
  by_cases q1 : m - a = 1
  ·rw [show decide (((m - a : Nat) : Int) = 1) = true from decide_eq_true (by omega)]
   obtain ⟨y, hy⟩ : ∃ y, xs[a]? = some y := ⟨_, List.getElem?_eq_getElem (by omega)⟩
   have hs : symF K (f + 1) a m b xs = upF (bsF K y xs (b - m + 1) m b - 1 - a) a xs := by
    simp only [symF, if_pos q1, hy]
   rw [hs]
   have rng := bsF_rng K y xs (b - m + 1) m b (by omega)
   refine WR.condT rfl (WR.seq (WR.reg (WQ.runS [] 1000 _ _ _ _ rfl (WQ.nilS (WR.seq (WR.reg (WQ.runS [] 1000 _ _ _ _ rfl (WQ.nilS ?_))))))))
   refine WR.seq (WR.block (WR.loop (WLr.weak (s := SL.toS ⟨bTm a m b m b n, [], none, 1003, sol L xs, []⟩) ?_ (bs1_loop L K a m b n hn (by omega) hK xs hlen hin y hy (b - m + 1) m b (by omega) h3 (by omega) (fun tm t0 t1 t10 => ?_)))))
   ·refine SW.tellR ?_ ?_
    ·repeat (first | exact .nil | refine .cons rfl (.v (VLe.refl _)) ?_ | refine .cons rfl (.l _ _ rfl) ?_ | refine .cons rfl (.v (VLe.unk _ _)) ?_)
    ·repeat (first | exact .nil | refine .cons rfl (.inl rfl) ?_)
   refine WR.weak (s := SL.toS ⟨[(0, .v (.sl 1002 0 n (.op 1))), (1, .v (.int .i64 a)), (10, .v (.int .i64 (bsF K y xs (b - m + 1) m b)))], [], none, 1003, sol L xs, []⟩) (SW.tellR (.cons t0 (.v (VLe.refl _)) (.cons t1 (.v (VLe.refl _)) (.cons t10 (.v (VLe.refl _)) .nil))) .nil) ?_
   unfold rc83_J2
   refine WR.seq (WR.seq (WR.reg (WQ.runS [] 1000 _ _ _ _ rfl (WQ.nilS ?_))))
   refine WR.block (WR.loop (WLr.weak (s := SL.toS ⟨[(0, .v (.sl 1002 0 n (.op 1))), (10, .v (.int .i64 (bsF K y xs (b - m + 1) m b))), (13, .v (.int .i64 a))], [], none, 1003, sol L xs, []⟩) ?_ (up_loop L (bsF K y xs (b - m + 1) m b) n hn (by omega) (by omega) (bsF K y xs (b - m + 1) m b - 1 - a) a xs (by omega) hlen (by omega) (fun tm => ?_))))
   ·refine SW.tellR ?_ ?_
    ·repeat (first | exact .nil | refine .cons rfl (.v (VLe.refl _)) ?_ | refine .cons rfl (.l _ _ rfl) ?_ | refine .cons rfl (.v (VLe.unk _ _)) ?_)
    ·repeat (first | exact .nil | refine .cons rfl (.inl rfl) ?_)
   refine WR.ret ⟨rfl, rfl, ⟨_, rfl, VLe.refl _⟩, fun b _ => rfl⟩
  ·rw [show decide (((m - a : Nat) : Int) = 1) = false from decide_eq_false (by omega)]
   refine WR.condF rfl (WR.skip ?_)
   unfold rc83_J10
   refine WR.seq (WR.seq (WR.reg (WQ.runS [] 1000 _ _ _ _ rfl (WQ.nilS ?_))))
   rw [show IntKind.i64.wrap ((b : Int) - (m : Int)) = ((b - m : Nat) : Int) from by rw [wrap64 (by omega) (by omega)]; omega]
   by_cases q2 : b - m = 1
   ·rw [show decide (((b - m : Nat) : Int) = 1) = true from decide_eq_true (by omega)]
    obtain ⟨y, hy⟩ : ∃ y, xs[m]? = some y := ⟨_, List.getElem?_eq_getElem (by omega)⟩
    have hs : symF K (f + 1) a m b xs = dnF (m - bsG K y xs (m - a + 1) a m) m xs := by
     simp only [symF, if_neg q1, if_pos q2, hy]
    rw [hs]
    have rng := bsG_rng K y xs (m - a + 1) a m (by omega)
    refine WR.condT rfl (WR.seq (WR.reg (WQ.runS [] 1000 _ _ _ _ rfl (WQ.nilS (WR.seq (WR.reg (WQ.runS [] 1000 _ _ _ _ rfl (WQ.nilS ?_))))))))
    refine WR.seq (WR.block (WR.loop (WLr.weak (s := SL.toS ⟨cTm3 a m b a m n, [], none, 1003, sol L xs, []⟩) ?_ (bs2_loop L K a m b n hn (by omega) hK xs hlen hin y hy (m - a + 1) a m (by omega) (by omega) (by omega) (fun tm t0 t2 t14 => ?_)))))
    ·refine SW.tellR ?_ ?_
     ·repeat (first | exact .nil | refine .cons rfl (.v (VLe.refl _)) ?_ | refine .cons rfl (.l _ _ rfl) ?_ | refine .cons rfl (.v (VLe.unk _ _)) ?_)
     ·repeat (first | exact .nil | refine .cons rfl (.inl rfl) ?_)
    refine WR.weak (s := SL.toS ⟨[(0, .v (.sl 1002 0 n (.op 1))), (2, .v (.int .i64 m)), (14, .v (.int .i64 (bsG K y xs (m - a + 1) a m)))], [], none, 1003, sol L xs, []⟩) (SW.tellR (.cons t0 (.v (VLe.refl _)) (.cons t2 (.v (VLe.refl _)) (.cons t14 (.v (VLe.refl _)) .nil))) .nil) ?_
    unfold rc83_J4
    refine WR.seq (WR.seq (WR.reg (WQ.runS [] 1000 _ _ _ _ rfl (WQ.nilS ?_))))
    refine WR.block (WR.loop (WLr.weak (s := SL.toS ⟨[(0, .v (.sl 1002 0 n (.op 1))), (14, .v (.int .i64 (bsG K y xs (m - a + 1) a m))), (17, .v (.int .i64 m))], [], none, 1003, sol L xs, []⟩) ?_ (dn_loop L (bsG K y xs (m - a + 1) a m) n hn (m - bsG K y xs (m - a + 1) a m) m xs (by omega) hlen (by omega) (fun tm => ?_))))
    ·refine SW.tellR ?_ ?_
     ·repeat (first | exact .nil | refine .cons rfl (.v (VLe.refl _)) ?_ | refine .cons rfl (.l _ _ rfl) ?_ | refine .cons rfl (.v (VLe.unk _ _)) ?_)
     ·repeat (first | exact .nil | refine .cons rfl (.inl rfl) ?_)
    refine WR.ret ⟨rfl, rfl, ⟨_, rfl, VLe.refl _⟩, fun b _ => rfl⟩
   ·rw [show decide (((b - m : Nat) : Int) = 1) = false from decide_eq_false (by omega)]
    refine WR.condF rfl (WR.skip ?_)
    unfold rc83_J9
    refine WR.seq (WR.reg (WQ.runS [] 1000 _ _ _ _ rfl (WQ.nilS ?_)))
    rw [half (by omega)]
    obtain ⟨mid, hmid⟩ : ∃ mid, mid = (a + b) / 2 := ⟨_, rfl⟩
    rw [← hmid]
    refine WR.seq (WR.reg (WQ.runS [] 1000 _ _ _ _ rfl (WQ.nilS ?_)))
    rw [show IntKind.i64.wrap ((mid : Int) + (m : Int)) = ((mid + m : Nat) : Int) from by rw [wrap64 (by omega) (by omega)]; simp]
    have rng := cutF_rng K a m b xs h1 h2
    rw [← hmid] at rng
    have hfin : ∀ s0 r0 : Nat, cutF K a m b xs = bsH K (mid + m - 1) xs (b - a + 1) s0 r0 → r0 ≤ mid → r0 ≤ m → s0 ≤ r0 → a ≤ s0 → mid + m ≤ s0 + b → ∀ tm QX, SW [] fr83 (SL.toS ⟨tm, [], none, 1003, sol L xs, []⟩) (SL.toS ⟨[(0, .v (.sl 1002 0 n (.op 1))), (1, .v (.int .i64 a)), (2, .v (.int .i64 m)), (3, .v (.int .i64 b)), (4, .v (.fn (.func 66) [] [.ptr 1001 0])), (18, .v (.int .i64 mid)), (19, .v (.int .i64 (mid + m : Nat))), (20, .v (.int .i64 s0)), (21, .v (.int .i64 r0))], [], none, 1003, sol L xs, []⟩) →
      WR Go.Proofs.Try.prog [] fr83 rc83_J8 (SL.toS ⟨tm, [], none, 1003, sol L xs, []⟩) (RetS Go.Proofs.Try.prog Go.Proofs.Try.f83 (.tup []) 1003 (sol L (symF K (f + 1) a m b xs))) QX := by
     intro s0 r0 hcut g1 g2 g3 g4 g5 tm QX hw
     refine WR.weak hw ?_
     unfold rc83_J8
     refine WR.seq (WR.reg (WQ.runS [] 1000 _ _ _ _ rfl (WQ.nilS ?_)))
     rw [show IntKind.i64.wrap (((mid + m : Nat) : Int) - 1) = ((mid + m - 1 : Nat) : Int) from by rw [wrap64 (by omega) (by omega)]; omega]
     refine WR.seq (WR.block (WR.loop (WLr.weak (s := SL.toS ⟨dTm3 a m b mid (mid + m) (mid + m - 1) s0 r0 n, [], none, 1003, sol L xs, []⟩) ?_ (bs3_loop L K a m b mid (mid + m) (mid + m - 1) n r0 hn (by omega) hK xs hlen hin (by omega) (by omega) (b - a + 1) s0 r0 (by omega) (Nat.le_refl _) g3 (by omega) (fun tm t0 t1 t2 t3 t4 t18 t19 t20 => ?_)))))
     ·refine SW.tellR ?_ ?_
      ·repeat (first | exact .nil | refine .cons rfl (.v (VLe.refl _)) ?_ | refine .cons rfl (.l _ _ rfl) ?_ | refine .cons rfl (.v (VLe.unk _ _)) ?_)
      ·repeat (first | exact .nil | refine .cons rfl (.inl rfl) ?_)
     rw [← hcut] at t20
     refine WR.weak (SW.tellR (.cons t0 (.v (VLe.refl _)) (.cons t1 (.v (VLe.refl _)) (.cons t2 (.v (VLe.refl _)) (.cons t3 (.v (VLe.refl _)) (.cons t4 (.v (VLe.refl _)) (.cons t18 (.v (VLe.refl _)) (.cons t19 (.v (VLe.refl _)) (.cons t20 (.v (VLe.refl _)) .nil)))))))) .nil) ?_
     refine sym_j7 L K n f a m b mid (cutF K a m b xs) (mid + m - cutF K a m b xs) ih hn (by omega) (by omega) h3 (by omega) (by omega) rfl (by omega) (by omega) xs hlen hin _ _ rfl rfl (fun tm => ?_)
     rw [symF_step K f a m b xs mid _ _ _ _ q1 q2 hmid rfl rfl rfl rfl]
     exact ⟨rfl, rfl, ⟨_, rfl, VLe.refl _⟩, fun b _ => rfl⟩
    refine WR.seq (WR.reg (WQ.runS [] 1000 _ _ _ _ rfl (WQ.nilS ?_)))
    refine WR.seq (WR.seq (WR.reg (WQ.runS [] 1000 _ _ _ _ rfl (WQ.nilS ?_))))
    by_cases q3 : m > mid
    ·rw [show decide ((m : Int) > (mid : Int)) = true from decide_eq_true (by omega)]
     refine WR.condT rfl (WR.seq (WR.reg (WQ.runS [] 1000 _ _ _ _ rfl (WQ.nilS (WR.reg (WQ.runS [] 1000 _ _ _ _ rfl (WQ.nilS ?_)))))))
     rw [show IntKind.i64.wrap (((mid + m : Nat) : Int) - (b : Int)) = ((mid + m - b : Nat) : Int) from by rw [wrap64 (by omega) (by omega)]; omega]
     refine hfin (mid + m - b) mid (by unfold cutF; simp only [← hmid, if_pos q3]) (by omega) (by omega) (by omega) (by omega) (by omega) _ _ ?_
     refine SW.tellR ?_ ?_
     ·repeat (first | exact .nil | refine .cons rfl (.v (VLe.refl _)) ?_ | refine .cons rfl (.l _ _ rfl) ?_ | refine .cons rfl (.v (VLe.unk _ _)) ?_)
     ·repeat (first | exact .nil | refine .cons rfl (.inl rfl) ?_)
    ·rw [show decide ((m : Int) > (mid : Int)) = false from decide_eq_false (by omega)]
     refine WR.condF rfl (WR.seq (WR.reg (WQ.runS [] 1000 _ _ _ _ rfl (WQ.nilS (WR.reg (WQ.runS [] 1000 _ _ _ _ rfl (WQ.nilS ?_)))))))
     refine hfin a m (by unfold cutF; simp only [← hmid, if_neg q3]) (by omega) (by omega) (by omega) (by omega) (by omega) _ _ ?_
     refine SW.tellR ?_ ?_
     ·repeat (first | exact .nil | refine .cons rfl (.v (VLe.refl _)) ?_ | refine .cons rfl (.l _ _ rfl) ?_ | refine .cons rfl (.v (VLe.unk _ _)) ?_)
     ·repeat (first | exact .nil | refine .cons rfl (.inl rfl) ?_)
end Go.VM
end
section
/- The stable sort of the library. -/
set_option maxRecDepth 100000
set_option linter.unusedVariables false
set_option linter.unusedSimpArgs false
namespace Go.VM
open Go.RowKit
def irow (K : Nat → Int) (n : Nat) : Nat → Nat → List Nat → Nat × List Nat
 | 0, a, xs => (a, xs)
 | f + 1, a, xs => if a + 20 ≤ n then irow K n f (a + 20) (insG K a (a + 20 - (a + 1)) (a + 1) xs) else (a, xs)
def mrow (K : Nat → Int) (n bs : Nat) : Nat → Nat → List Nat → Nat × List Nat
 | 0, a, xs => (a, xs)
 | f + 1, a, xs => if a + 2 * bs ≤ n then mrow K n bs f (a + 2 * bs) (symF K n a (a + bs) (a + 2 * bs) xs) else (a, xs)
def passF (K : Nat → Int) (n bs : Nat) (xs : List Nat) : List Nat :=
 if (mrow K n bs (n + 1) 0 xs).1 + bs < n then symF K n (mrow K n bs (n + 1) 0 xs).1 ((mrow K n bs (n + 1) 0 xs).1 + bs) n (mrow K n bs (n + 1) 0 xs).2 else (mrow K n bs (n + 1) 0 xs).2
def passes (K : Nat → Int) (n : Nat) : Nat → Nat → List Nat → List Nat
 | 0, _, xs => xs
 | f + 1, bs, xs => if bs < n then passes K n f (2 * bs) (passF K n bs xs) else xs
def stableF (K : Nat → Int) (n : Nat) (xs : List Nat) : List Nat :=
 passes K n (n + 1) 20 (insG K (irow K n (n + 1) 0 xs).1 (n - ((irow K n (n + 1) 0 xs).1 + 1)) ((irow K n (n + 1) 0 xs).1 + 1) (irow K n (n + 1) 0 xs).2)
theorem insG_len (K : Nat → Int) (a : Nat) : ∀ (m i : Nat) (xs : List Nat), (insG K a m i xs).length = xs.length
 | 0, _, _ => rfl
 | m + 1, i, xs => by unfold insG; rw [insG_len K a m, sinkF_len]
theorem insG_mem (K : Nat → Int) (a : Nat) : ∀ (m i : Nat) (xs : List Nat) (z : Nat), z ∈ insG K a m i xs → z ∈ xs
 | 0, _, _, _, h => h
 | m + 1, i, xs, z, h => by unfold insG at h; exact sinkF_mem _ _ _ _ _ (insG_mem K a m _ _ z h)
def GoodP (L : List EZ) (n : Nat) (xs : List Nat) : Prop := xs.length = n ∧ ∀ x ∈ xs, x < L.length
theorem GoodP.ins {L : List EZ} {n : Nat} {xs : List Nat} (h : GoodP L n xs) (K : Nat → Int) (a m i : Nat) : GoodP L n (insG K a m i xs) := ⟨by rw [insG_len]; exact h.1, fun x hx => h.2 x (insG_mem _ _ _ _ _ _ hx)⟩
theorem GoodP.sym {L : List EZ} {n : Nat} {xs : List Nat} (h : GoodP L n xs) (K : Nat → Int) (f a m b : Nat) : GoodP L n (symF K f a m b xs) := ⟨by rw [symF_len]; exact h.1, fun x hx => h.2 x (symF_mem _ _ _ _ _ _ _ hx)⟩
theorem GoodP.mrow {L : List EZ} {n : Nat} (K : Nat → Int) (k bs : Nat) : ∀ (f a : Nat) (xs : List Nat), GoodP L n xs → GoodP L n (mrow K k bs f a xs).2
 | 0, _, _, h => h
 | f + 1, a, xs, h => by
  unfold VM.mrow
  split
  ·exact GoodP.mrow K k bs f _ _ (h.sym K _ _ _ _)
  ·exact h
theorem GoodP.irow {L : List EZ} {n : Nat} (K : Nat → Int) (k : Nat) : ∀ (f a : Nat) (xs : List Nat), GoodP L n xs → GoodP L n (irow K k f a xs).2
 | 0, _, _, h => h
 | f + 1, a, xs, h => by
  unfold VM.irow
  split
  ·exact GoodP.irow K k f _ _ (h.ins K _ _ _)
  ·exact h
theorem GoodP.pass {L : List EZ} {n : Nat} {xs : List Nat} (h : GoodP L n xs) (K : Nat → Int) (k bs : Nat) : GoodP L n (passF K k bs xs) := by
 unfold passF
 split
 ·exact (GoodP.mrow K k bs _ _ _ h).sym K _ _ _ _
 ·exact GoodP.mrow K k bs _ _ _ h
theorem GoodP.passes {L : List EZ} {n : Nat} (K : Nat → Int) (k : Nat) : ∀ (f bs : Nat) (xs : List Nat), GoodP L n xs → GoodP L n (passes K k f bs xs)
 | 0, _, _, h => h
 | f + 1, a, xs, h => by
  unfold VM.passes
  split
  ·exact GoodP.passes K k f _ _ (h.pass K _ _)
  ·exact h
theorem GoodP.stable {L : List EZ} {n : Nat} {xs : List Nat} (h : GoodP L n xs) (K : Nat → Int) (k : Nat) : GoodP L n (stableF K k xs) := GoodP.passes K k _ _ _ ((GoodP.irow K k _ _ _ h).ins K _ _ _)
noncomputable def fr78 : Fr := ⟨Go.Proofs.Try.f78.ntmps, none, 78⟩
def kTm (a b bs n : Nat) : TM := [(0, .v (.sl 1002 0 n (.op 1))), (1, .v (.int .i64 n)), (2, .v (.fn (.func 66) [] [.ptr 1001 0])), (6, .v (.int .i64 bs)), (7, .v (.int .i64 a)), (8, .v (.int .i64 b))]
def kTm3 (bs n : Nat) : TM := [(0, .v (.sl 1002 0 n (.op 1))), (1, .v (.int .i64 n)), (2, .v (.fn (.func 66) [] [.ptr 1001 0])), (6, .v (.int .i64 bs))]
theorem w2 {x : Nat} (h : x ≤ 1000000) : IntKind.i64.wrap ((2 : Int) * (x : Int)) = ((2 * x : Nat) : Int) := by rw [wrap64 (by omega) (by omega)]; omega
theorem w2' {x : Nat} (h : x ≤ 1000000) : IntKind.i64.wrap ((x : Int) * (2 : Int)) = ((2 * x : Nat) : Int) := by rw [wrap64 (by omega) (by omega)]; omega
theorem wadd {x y : Nat} (h : x ≤ 1000000) (h2 : y ≤ 1000000) : IntKind.i64.wrap ((x : Int) + (y : Int)) = ((x + y : Nat) : Int) := by rw [wrap64 (by omega) (by omega)]; omega
theorem st1_loop {QN : S → Prop} {QX : X → S → Prop} (L : List EZ) (K : Nat → Int) (n : Nat) (hn : n ≤ 100000) (hK : ∀ x e, L[x]? = some e → K x = e.last) : ∀ (f a : Nat) (xs : List Nat), n < f + a → GoodP L n xs → a ≤ n →
  (∀ tm, tg tm 0 = some (.v (.sl 1002 0 n (.op 1))) → tg tm 1 = some (.v (.int .i64 n)) → tg tm 2 = some (.v (.fn (.func 66) [] [.ptr 1001 0])) → tg tm 6 = some (.v (.int .i64 (20 : Nat))) → tg tm 7 = some (.v (.int .i64 (irow K n f a xs).1)) → (irow K n f a xs).1 ≤ n → QX (.exit 0) (SL.toS ⟨tm, [], none, 1003, sol L (irow K n f a xs).2, []⟩)) →
  WLr Go.Proofs.Try.prog [] fr78 rc78_L1 (SL.toS ⟨kTm a (a + 20) 20 n, [], none, 1003, sol L xs, []⟩) QN QX := by
 intro f
 induction f with
 | zero => intro a xs h1 h2 h3; omega
 | succ f ih =>
  intro a xs hf hg ha hx
  unfold rc78_L1
  refine WLr.of ?_
  refine WR.seq (WR.seq (WR.reg (WQ.runS [] 1000 _ _ _ _ rfl (WQ.nilS ?_))))
  by_cases h1 : a + 20 ≤ n
  ·have hs : irow K n (f + 1) a xs = irow K n f (a + 20) (insG K a (a + 20 - (a + 1)) (a + 1) xs) := by simp only [irow, if_pos h1]
   rw [hs] at hx
   rw [show decide (((a + 20 : Nat) : Int) ≤ (n : Int)) = true from decide_eq_true (by omega)]
   refine WR.condT rfl (WR.skip ?_)
   refine WR.block (WR.seq (WR.reg (WQ.runS [] 4 _ _ _ _ rfl ?_)))
   refine WQ.callH rfl rfl rfl rfl rfl (ins_core L K a (a + 20) n hn h1 (by omega) hK xs hg.1 hg.2) .base rfl (WQ.runS [] 1000 _ _ _ _ rfl (WQ.nilS ?_))
   repeat (first | refine WR.seq ?_ | refine WR.block ?_ | refine WR.scope ?_ | refine WR.skip ?_ | refine WR.exit ?_ | refine WR.condT rfl ?_ | refine WR.condF rfl ?_ | refine WR.reg (WQ.runS [] 1000 _ _ _ _ rfl ?_) | refine WQ.nilS ?_ | refine WR.dreg hmix (DW.runS [] 1000 _ _ _ _ _ _ rfl ?_))
   rw [wadd (x := a + 20) (y := 20) (by omega) (by omega)]
   refine WIr.again (WLr.weak ?_ (ih (a + 20) _ (by omega) (hg.ins K _ _ _) h1 hx))
   refine SW.tellR ?_ ?_
   ·repeat (first | exact .nil | refine .cons rfl (.v (VLe.refl _)) ?_ | refine .cons rfl (.l _ _ rfl) ?_ | refine .cons rfl (.v (VLe.unk _ _)) ?_)
   ·repeat (first | exact .nil | refine .cons rfl (.inl rfl) ?_)
  ·have hs : irow K n (f + 1) a xs = (a, xs) := by simp only [irow, if_neg h1]
   rw [hs] at hx
   rw [show decide (((a + 20 : Nat) : Int) ≤ (n : Int)) = false from decide_eq_false (by omega)]
   refine WR.condF rfl (WR.exit ?_)
   exact hx _ rfl rfl rfl rfl rfl ha
theorem st2_loop {QN : S → Prop} {QX : X → S → Prop} (L : List EZ) (K : Nat → Int) (n bs : Nat) (hn : n ≤ 100000) (hK : ∀ x e, L[x]? = some e → K x = e.last) (hbs : bs < n) (hb0 : 0 < bs) : ∀ (f a : Nat) (xs : List Nat), n < f + a → GoodP L n xs → a ≤ n →
  (∀ tm, tg tm 0 = some (.v (.sl 1002 0 n (.op 1))) → tg tm 1 = some (.v (.int .i64 n)) → tg tm 2 = some (.v (.fn (.func 66) [] [.ptr 1001 0])) → tg tm 6 = some (.v (.int .i64 bs)) → tg tm 7 = some (.v (.int .i64 (mrow K n bs f a xs).1)) → (mrow K n bs f a xs).1 ≤ n → QX (.exit 4) (SL.toS ⟨tm, [], none, 1003, sol L (mrow K n bs f a xs).2, []⟩)) →
  WLr Go.Proofs.Try.prog [] fr78 rc78_L2 (SL.toS ⟨kTm a (a + 2 * bs) bs n, [], none, 1003, sol L xs, []⟩) QN QX := by
 intro f
 induction f with
 | zero => intro a xs h1 h2 h3; omega
 | succ f ih =>
  intro a xs hf hg ha hx
  unfold rc78_L2
  refine WLr.of ?_
  refine WR.seq (WR.seq (WR.reg (WQ.runS [] 1000 _ _ _ _ rfl (WQ.nilS ?_))))
  by_cases h1 : a + 2 * bs ≤ n
  ·have hs : mrow K n bs (f + 1) a xs = mrow K n bs f (a + 2 * bs) (symF K n a (a + bs) (a + 2 * bs) xs) := by simp only [mrow, if_pos h1]
   rw [hs] at hx
   rw [show decide (((a + 2 * bs : Nat) : Int) ≤ (n : Int)) = true from decide_eq_true (by omega)]
   refine WR.condT rfl (WR.skip ?_)
   refine WR.block (WR.seq (WR.reg (WQ.runS [] 7 _ _ _ _ rfl ?_)))
   rw [wadd (x := a) (y := bs) (by omega) (by omega)]
   refine WQ.callH rfl rfl rfl rfl rfl (sym_core L K n hn hK n a (a + bs) (a + 2 * bs) xs (by omega) (by omega) (by omega) h1 hg.1 hg.2) .base rfl (WQ.runS [] 1000 _ _ _ _ rfl (WQ.nilS ?_))
   refine WR.seq (WR.reg (WQ.runS [] 1000 _ _ _ _ rfl (WQ.nilS ?_)))
   refine WR.reg (WQ.runS [] 3 _ _ _ _ rfl ?_)
   rw [w2 (x := bs) (by omega)]
   refine WQ.runS [] 1000 _ _ _ _ rfl (WQ.nilS ?_)
   rw [wadd (x := a + 2 * bs) (y := 2 * bs) (by omega) (by omega)]
   refine WIr.again (WLr.weak ?_ (ih (a + 2 * bs) _ (by omega) (hg.sym K _ _ _ _) h1 hx))
   refine SW.tellR ?_ ?_
   ·repeat (first | exact .nil | refine .cons rfl (.v (VLe.refl _)) ?_ | refine .cons rfl (.l _ _ rfl) ?_ | refine .cons rfl (.v (VLe.unk _ _)) ?_)
   ·repeat (first | exact .nil | refine .cons rfl (.inl rfl) ?_)
  ·have hs : mrow K n bs (f + 1) a xs = (a, xs) := by simp only [mrow, if_neg h1]
   rw [hs] at hx
   rw [show decide (((a + 2 * bs : Nat) : Int) ≤ (n : Int)) = false from decide_eq_false (by omega)]
   refine WR.condF rfl (WR.exit ?_)
   exact hx _ rfl rfl rfl rfl rfl ha
theorem st3_loop {QN : S → Prop} {QX : X → S → Prop} (L : List EZ) (K : Nat → Int) (n : Nat) (hn : n ≤ 100000) (hK : ∀ x e, L[x]? = some e → K x = e.last) : ∀ (f bs : Nat) (xs : List Nat), n < f + bs → GoodP L n xs → 0 < bs → bs ≤ 200000 →
  (∀ tm, QX (.exit 2) (SL.toS ⟨tm, [], none, 1003, sol L (passes K n f bs xs), []⟩)) →
  WLr Go.Proofs.Try.prog [] fr78 rc78_L3 (SL.toS ⟨kTm3 bs n, [], none, 1003, sol L xs, []⟩) QN QX := by
 intro f
 induction f with
 | zero =>
  intro bs xs h1 h2 h3 h4 hx
  unfold rc78_L3
  refine WLr.of ?_
  refine WR.seq (WR.seq (WR.reg (WQ.runS [] 1000 _ _ _ _ rfl (WQ.nilS ?_))))
  rw [show decide ((bs : Int) < (n : Int)) = false from decide_eq_false (by omega)]
  refine WR.condF rfl (WR.exit ?_)
  exact hx _
 | succ f ih =>
  intro bs xs hf hg hb0 hb8 hx
  unfold rc78_L3
  refine WLr.of ?_
  refine WR.seq (WR.seq (WR.reg (WQ.runS [] 1000 _ _ _ _ rfl (WQ.nilS ?_))))
  by_cases h1 : bs < n
  ·have hs : passes K n (f + 1) bs xs = passes K n f (2 * bs) (passF K n bs xs) := by simp only [passes, if_pos h1]
   rw [hs] at hx
   rw [show decide ((bs : Int) < (n : Int)) = true from decide_eq_true (by omega)]
   refine WR.condT rfl (WR.skip ?_)
   refine WR.block (WR.seq (WR.reg (WQ.runS [] 1000 _ _ _ _ rfl (WQ.nilS ?_))))
   rw [w2 (x := bs) (by omega)]
   have hend : ∀ tm (QN' : S → Prop) (QX' : X → S → Prop), tg tm 0 = some (.v (.sl 1002 0 n (.op 1))) → tg tm 1 = some (.v (.int .i64 n)) → tg tm 2 = some (.v (.fn (.func 66) [] [.ptr 1001 0])) → tg tm 6 = some (.v (.int .i64 bs)) → (∀ tm', tg tm' 0 = some (.v (.sl 1002 0 n (.op 1))) → tg tm' 1 = some (.v (.int .i64 n)) → tg tm' 2 = some (.v (.fn (.func 66) [] [.ptr 1001 0])) → tg tm' 6 = some (.v (.int .i64 (2 * bs : Nat))) → QN' (SL.toS ⟨tm', [], none, 1003, sol L (passF K n bs xs), []⟩)) →
     WR Go.Proofs.Try.prog [] fr78 rc78_J1 (SL.toS ⟨tm, [], none, 1003, sol L (passF K n bs xs), []⟩) QN' QX' := by
    intro tm QN' QX' g0 g1 g2 g6 hq
    refine WR.weak (s := SL.toS ⟨kTm3 bs n, [], none, 1003, sol L (passF K n bs xs), []⟩) (SW.tellR (.cons g0 (.v (VLe.refl _)) (.cons g1 (.v (VLe.refl _)) (.cons g2 (.v (VLe.refl _)) (.cons g6 (.v (VLe.refl _)) .nil)))) .nil) ?_
    unfold rc78_J1
    refine WR.reg (WQ.runS [] 1000 _ _ _ _ rfl (WQ.nilS ?_))
    rw [w2' (x := bs) (by omega)]
    exact hq _ rfl rfl rfl rfl
   refine WR.seq (WR.block (WR.loop (WLr.weak (s := SL.toS ⟨kTm 0 (0 + 2 * bs) bs n, [], none, 1003, sol L xs, []⟩) ?_ (st2_loop L K n bs hn hK h1 hb0 (n + 1) 0 xs (by omega) hg (by omega) (fun tm t0 t1 t2 t6 t7 hle => ?_)))))
   ·rw [Nat.zero_add]
    refine SW.tellR ?_ ?_
    ·repeat (first | exact .nil | refine .cons rfl (.v (VLe.refl _)) ?_ | refine .cons rfl (.l _ _ rfl) ?_ | refine .cons rfl (.v (VLe.unk _ _)) ?_)
    ·repeat (first | exact .nil | refine .cons rfl (.inl rfl) ?_)
   unfold rc78_J2
   have hq : ∀ tm', tg tm' 0 = some (.v (.sl 1002 0 n (.op 1))) → tg tm' 1 = some (.v (.int .i64 n)) → tg tm' 2 = some (.v (.fn (.func 66) [] [.ptr 1001 0])) → tg tm' 6 = some (.v (.int .i64 (2 * bs : Nat))) → WLr Go.Proofs.Try.prog [] fr78 rc78_L3 (SL.toS ⟨tm', [], none, 1003, sol L (passF K n bs xs), []⟩) QN QX := by
    intro tm' g0 g1 g2 g6
    exact WLr.weak (SW.tellR (.cons g0 (.v (VLe.refl _)) (.cons g1 (.v (VLe.refl _)) (.cons g2 (.v (VLe.refl _)) (.cons g6 (.v (VLe.refl _)) .nil)))) .nil) (ih (2 * bs) _ (by omega) (hg.pass K _ _) (by omega) (by omega) hx)
   have gm : GoodP L n (mrow K n bs (n + 1) 0 xs).2 := GoodP.mrow K n bs (n + 1) 0 xs hg
   have hpass : passF K n bs xs = if (mrow K n bs (n + 1) 0 xs).1 + bs < n then symF K n (mrow K n bs (n + 1) 0 xs).1 ((mrow K n bs (n + 1) 0 xs).1 + bs) n (mrow K n bs (n + 1) 0 xs).2 else (mrow K n bs (n + 1) 0 xs).2 := rfl
   generalize mrow K n bs (n + 1) 0 xs = z at *
   obtain ⟨a, ys⟩ := z
   refine WR.weak (s := SL.toS ⟨[(0, .v (.sl 1002 0 n (.op 1))), (1, .v (.int .i64 n)), (2, .v (.fn (.func 66) [] [.ptr 1001 0])), (6, .v (.int .i64 bs)), (7, .v (.int .i64 a))], [], none, 1003, sol L ys, []⟩) (SW.tellR (.cons t0 (.v (VLe.refl _)) (.cons t1 (.v (VLe.refl _)) (.cons t2 (.v (VLe.refl _)) (.cons t6 (.v (VLe.refl _)) (.cons t7 (.v (VLe.refl _)) .nil))))) .nil) ?_
   refine WR.seq (WR.seq (WR.reg (WQ.runS [] 1000 _ _ _ _ rfl (WQ.nilS ?_))))
   rw [wadd (x := a) (y := bs) (by simp only at hle; omega) (by omega)]
   refine WR.seq (WR.reg (WQ.runS [] 1000 _ _ _ _ rfl (WQ.nilS ?_)))
   by_cases h2 : a + bs < n
   ·rw [if_pos h2] at hpass
    rw [show decide (((a + bs : Nat) : Int) < (n : Int)) = true from decide_eq_true (by omega)]
    refine WR.condT rfl (WR.reg (WQ.runS [] 5 _ _ _ _ rfl ?_))
    refine WQ.callH rfl rfl rfl rfl rfl (sym_core L K n hn hK n a (a + bs) n ys (by omega) (by omega) (by omega) (by omega) gm.1 gm.2) .base rfl (WQ.runS [] 1000 _ _ _ _ rfl (WQ.nilS ?_))
    rw [show symF K n a (a + bs) n ys = passF K n bs xs from hpass.symm]
    refine hend _ _ _ rfl rfl rfl rfl (fun tm' g0 g1 g2 g6 => ?_)
    exact WIr.again (hq tm' g0 g1 g2 g6)
   ·rw [if_neg h2] at hpass
    rw [show decide (((a + bs : Nat) : Int) < (n : Int)) = false from decide_eq_false (by omega)]
    refine WR.condF rfl (WR.skip ?_)
    rw [show ys = passF K n bs xs from hpass.symm]
    refine hend _ _ _ rfl rfl rfl rfl (fun tm' g0 g1 g2 g6 => ?_)
    exact WIr.again (hq tm' g0 g1 g2 g6)
  ·have hs : passes K n (f + 1) bs xs = xs := by simp only [passes, if_neg h1]
   rw [hs] at hx
   rw [show decide ((bs : Int) < (n : Int)) = false from decide_eq_false (by omega)]
   refine WR.condF rfl (WR.exit ?_)
   exact hx _
theorem stable_core (L : List EZ) (K : Nat → Int) (n : Nat) (hn : n ≤ 100000) (hK : ∀ x e, L[x]? = some e → K x = e.last) (xs : List Nat) (hg : GoodP L n xs) :
  SCall Go.Proofs.Try.prog [] 78 [.sl 1002 0 n (.op 1), .int .i64 n, .fn (.func 66) [] [.ptr 1001 0]] none ⟨1003, og (sol L xs), []⟩ (.ret (.tup [])) none ⟨1003, og (sol L (stableF K n xs)), []⟩ := by
 refine SCall.listed (fn := Go.Proofs.Try.f78) (by kernel_rfl) res78 (by kernel_rfl) (by kernel_rfl) (Nat.le_refl _) rfl ((by exact ⟨flatZ_in _, ⟨(by show 1000 < 1003; decide), trivial⟩, ints_in _, trivial⟩)) trivial ?_
 unfold rc78
 refine WR.seq (WR.reg (WQ.runS [] 1000 _ _ _ _ rfl (WQ.nilS ?_)))
 refine WR.seq (WR.reg (WQ.runS [] 1000 _ _ _ _ rfl (WQ.nilS ?_)))
 refine WR.seq (WR.block (WR.loop (WLr.weak (s := SL.toS ⟨kTm 0 (0 + 20) 20 n, [], none, 1003, sol L xs, []⟩) ?_ (st1_loop L K n hn hK (n + 1) 0 xs (by omega) hg (by omega) (fun tm t0 t1 t2 t6 t7 hle => ?_)))))
 ·refine SW.tellR ?_ ?_
  ·repeat (first | exact .nil | refine .cons rfl (.v (VLe.refl _)) ?_ | refine .cons rfl (.l _ _ rfl) ?_ | refine .cons rfl (.v (VLe.unk _ _)) ?_)
  ·repeat (first | exact .nil | refine .cons rfl (.inl rfl) ?_)
 have gm : GoodP L n (irow K n (n + 1) 0 xs).2 := GoodP.irow K n (n + 1) 0 xs hg
 have hst : stableF K n xs = passes K n (n + 1) 20 (insG K (irow K n (n + 1) 0 xs).1 (n - ((irow K n (n + 1) 0 xs).1 + 1)) ((irow K n (n + 1) 0 xs).1 + 1) (irow K n (n + 1) 0 xs).2) := rfl
 generalize irow K n (n + 1) 0 xs = z at *
 obtain ⟨a, ys⟩ := z
 rw [hst]
 refine WR.weak (s := SL.toS ⟨[(0, .v (.sl 1002 0 n (.op 1))), (1, .v (.int .i64 n)), (2, .v (.fn (.func 66) [] [.ptr 1001 0])), (6, .v (.int .i64 (20 : Nat))), (7, .v (.int .i64 a))], [], none, 1003, sol L ys, []⟩) (SW.tellR (.cons t0 (.v (VLe.refl _)) (.cons t1 (.v (VLe.refl _)) (.cons t2 (.v (VLe.refl _)) (.cons t6 (.v (VLe.refl _)) (.cons t7 (.v (VLe.refl _)) .nil))))) .nil) ?_
 unfold rc78_J3
 refine WR.seq (WR.reg (WQ.runS [] 4 _ _ _ _ rfl ?_))
 refine WQ.callH rfl rfl rfl rfl rfl (ins_core L K a n n hn (Nat.le_refl _) (by simp only at hle; omega) hK ys gm.1 gm.2) .base rfl (WQ.runS [] 1000 _ _ _ _ rfl (WQ.nilS ?_))
 refine WR.block (WR.loop (WLr.weak (s := SL.toS ⟨kTm3 20 n, [], none, 1003, sol L (insG K a (n - (a + 1)) (a + 1) ys), []⟩) ?_ (st3_loop L K n hn hK (n + 1) 20 (insG K a (n - (a + 1)) (a + 1) ys) (by omega) (gm.ins K _ _ _) (by omega) (by omega) (fun tm => ?_))))
 ·refine SW.tellR ?_ ?_
  ·repeat (first | exact .nil | refine .cons rfl (.v (VLe.refl _)) ?_ | refine .cons rfl (.l _ _ rfl) ?_ | refine .cons rfl (.v (VLe.unk _ _)) ?_)
  ·repeat (first | exact .nil | refine .cons rfl (.inl rfl) ?_)
 ·exact ⟨rfl, rfl, ⟨_, rfl, VLe.refl _⟩, fun b _ => rfl⟩
theorem sort_core (L : List EZ) (K : Nat → Int) (n : Nat) (hn : n ≤ 100000) (hK : ∀ x e, L[x]? = some e → K x = e.last) (xs : List Nat) (hg : GoodP L n xs) :
  SCall Go.Proofs.Try.prog [] 65 [.sl 1002 0 n (.op 1), .fn (.func 66) [] [.ptr 1001 0]] none ⟨1003, og (sol L xs), []⟩ (.ret (.tup [])) none ⟨1003, og (sol L (stableF K n xs)), []⟩ := by
 refine SCall.listed (fn := Go.Proofs.Try.f65) (by kernel_rfl) res65 (by kernel_rfl) (by kernel_rfl) (Nat.le_refl _) rfl ((by exact ⟨flatZ_in _, ⟨(by show 1000 < 1003; decide), trivial⟩, ints_in _, trivial⟩)) trivial ?_
 unfold rc65
 refine WR.reg (WQ.runS [] 4 _ _ _ _ rfl ?_)
 refine WQ.callH rfl rfl rfl rfl rfl (stable_core L K n hn hK xs hg) .base rfl (WQ.runS [] 1000 _ _ _ _ rfl (WQ.nilS ?_))
 exact ⟨rfl, rfl, ⟨_, rfl, VLe.refl _⟩, fun b _ => rfl⟩
end Go.VM
end
section
/- What the program keeps: the entries that live, sorted. -/
set_option maxRecDepth 100000
set_option linter.unusedVariables false
set_option linter.unusedSimpArgs false
namespace Go.VM
open Go.RowKit
theorem sort_lift (L : List EZ) (K : Nat → Int) (n : Nat) (hn : n ≤ 100000) (hK : ∀ x e, L[x]? = some e → K x = e.last) (xs : List Nat) (hg : GoodP L n xs) {h : H} {q c r : Nat} (hqc : q ≠ c) (hqr : q ≠ r) (hcr : c ≠ r) (hq : glim ≤ q) (hc : glim ≤ c) (hr : glim ≤ r)
  (hoq : h.ob q = some (.cells true (flatZ L))) (hoc : h.ob c = some (.cells false [.sl q 0 L.length (.op 4)])) (hor : h.ob r = some (.cells true (ints xs))) :
  SCall Go.Proofs.Try.prog [] 65 [.sl r 0 n (.op 1), .fn (.func 66) [] [.ptr c 0]] none h (.ret (.tup [])) none (h.put r (.cells true (ints (stableF K n xs)))) := by
 have hri : ∀ (ρ : Nat → Nat) (zs : List Nat), rens ρ (ints zs) = ints zs := by
  intro ρ zs
  induction zs with
  | nil => rfl
  | cons z zs ih => show _ :: rens ρ (ints zs) = _; rw [ih]; rfl
 refine SCall.frameL (n := 0) [q, c, r] rfl (sort_core L K n hn hK xs hg) (by simp [hqc, hqr, hcr]) (by simp [hq, hc, hr]) (fun k => ?_) rfl (fun k d o hk ho => ?_) (by exact ⟨flatZ_in _, ⟨(by show 1000 < glim + 3; decide), trivial⟩, ints_in _, trivial⟩) (by exact ⟨(by show 1002 < glim + 3; decide), ⟨trivial, trivial, (by show 1001 < glim + 3; decide), trivial⟩, trivial⟩) (by exact trivial) (by exact ⟨flatZ_in _, ⟨(by show 1000 < glim + 3; decide), trivial⟩, ints_in _, trivial⟩) rfl rfl rfl rfl (fun k hk => ?_) (fun d hd => ?_)
 ·simp only [sol, og_cons]
  show _ ↔ 1000 ≤ k ∧ k < 1003
  split
  ·simp; omega
  ·split
   ·simp; omega
   ·split
    ·simp; omega
    ·simp [og]; omega
 ·match k, hk with
  | 0, hk =>
   cases hk; cases ho
   rw [hoq]
   show some _ = some (Obj.cells true (rens _ (flatZ L)))
   rw [flatZ_ren]
  | 1, hk =>
   cases hk; cases ho
   rw [hoc]; rfl
  | 2, hk =>
   cases hk; cases ho
   rw [hor]
   show some _ = some (Obj.cells true (rens _ (ints xs)))
   rw [hri]
 ·have hk : k < 3 := hk
  match k, hk with
  | 0, _ =>
   show (if q = r then _ else h.ob q) = some (Obj.cells true (rens _ (flatZ L)))
   rw [if_neg hqr, flatZ_ren]; exact hoq
  | 1, _ =>
   show (if c = r then _ else h.ob c) = _
   rw [if_neg hcr]; exact hoc
  | 2, _ =>
   show (if r = r then _ else h.ob r) = some (Obj.cells true (rens _ (ints _)))
   rw [if_pos rfl, hri]
 ·have h1 := hd 2 (by show 2 < 3; decide)
  have h1 : r ≠ d := h1
  show (if d = r then _ else h.ob d) = _
  rw [if_neg (fun e => h1 e.symm)]
theorem sortNil_core (L : List EZ) :
  SCall Go.Proofs.Try.prog [] 65 [.lst [] (.ex 0), .fn (.func 66) [] [.ptr 1001 0]] none ⟨1002, og [(1000, .cells true (flatZ L)), (1001, .cells false [.sl 1000 0 L.length (.op 4)])], []⟩ (.ret (.tup [])) none ⟨1002, og [(1000, .cells true (flatZ L)), (1001, .cells false [.sl 1000 0 L.length (.op 4)])], []⟩ := by
 have hin : olIn (· < 1002) [(1000, .cells true (flatZ L)), (1001, .cells false [.sl 1000 0 L.length (.op 4)])] := ⟨flatZ_in _, ⟨(by show 1000 < 1002; decide), trivial⟩, trivial⟩
 have h82 : SCall Go.Proofs.Try.prog [] 82 [.lst [] (.ex 0), .int .i64 0, .int .i64 0, .fn (.func 66) [] [.ptr 1001 0]] none ⟨1002, og [(1000, .cells true (flatZ L)), (1001, .cells false [.sl 1000 0 L.length (.op 4)])], []⟩ (.ret (.tup [])) none ⟨1002, og [(1000, .cells true (flatZ L)), (1001, .cells false [.sl 1000 0 L.length (.op 4)])], []⟩ := by
  refine SCall.listed (fn := Go.Proofs.Try.f82) (by kernel_rfl) res82 (by kernel_rfl) (by kernel_rfl) (Nat.le_refl _) rfl (hin) trivial ?_
  unfold rc82
  refine WR.seq (WR.reg (WQ.runS [] 1000 _ _ _ _ rfl (WQ.nilS ?_)))
  refine WR.block (WR.loop ?_)
  unfold rc82_L2
  refine WLr.of ?_
  refine WR.seq (WR.seq (WR.reg (WQ.runS [] 1000 _ _ _ _ rfl (WQ.nilS ?_))))
  refine WR.condF rfl (WR.exit ?_)
  exact ⟨rfl, rfl, ⟨_, rfl, VLe.refl _⟩, fun b _ => rfl⟩
 have h78 : SCall Go.Proofs.Try.prog [] 78 [.lst [] (.ex 0), .int .i64 0, .fn (.func 66) [] [.ptr 1001 0]] none ⟨1002, og [(1000, .cells true (flatZ L)), (1001, .cells false [.sl 1000 0 L.length (.op 4)])], []⟩ (.ret (.tup [])) none ⟨1002, og [(1000, .cells true (flatZ L)), (1001, .cells false [.sl 1000 0 L.length (.op 4)])], []⟩ := by
  refine SCall.listed (fn := Go.Proofs.Try.f78) (by kernel_rfl) res78 (by kernel_rfl) (by kernel_rfl) (Nat.le_refl _) rfl (hin) trivial ?_
  unfold rc78
  refine WR.seq (WR.reg (WQ.runS [] 1000 _ _ _ _ rfl (WQ.nilS ?_)))
  refine WR.seq (WR.reg (WQ.runS [] 1000 _ _ _ _ rfl (WQ.nilS ?_)))
  refine WR.seq (WR.block (WR.loop ?_))
  unfold rc78_L1
  refine WLr.of ?_
  refine WR.seq (WR.seq (WR.reg (WQ.runS [] 1000 _ _ _ _ rfl (WQ.nilS ?_))))
  refine WR.condF rfl (WR.exit ?_)
  unfold rc78_J3
  refine WR.seq (WR.reg (WQ.runS [] 4 _ _ _ _ rfl ?_))
  refine WQ.callH rfl rfl rfl rfl rfl h82 .base rfl (WQ.runS [] 1000 _ _ _ _ rfl (WQ.nilS ?_))
  refine WR.block (WR.loop ?_)
  unfold rc78_L3
  refine WLr.of ?_
  refine WR.seq (WR.seq (WR.reg (WQ.runS [] 1000 _ _ _ _ rfl (WQ.nilS ?_))))
  refine WR.condF rfl (WR.exit ?_)
  exact ⟨rfl, rfl, ⟨_, rfl, VLe.refl _⟩, fun b _ => rfl⟩
 refine SCall.listed (fn := Go.Proofs.Try.f65) (by kernel_rfl) res65 (by kernel_rfl) (by kernel_rfl) (Nat.le_refl _) rfl (hin) trivial ?_
 unfold rc65
 refine WR.reg (WQ.runS [] 4 _ _ _ _ rfl ?_)
 refine WQ.callH rfl rfl rfl rfl rfl h78 .base rfl (WQ.runS [] 1000 _ _ _ _ rfl (WQ.nilS ?_))
 exact ⟨rfl, rfl, ⟨_, rfl, VLe.refl _⟩, fun b _ => rfl⟩
def liveF : List EZ → Nat → List Nat
 | [], _ => []
 | e :: l, i => if e.live then i :: liveF l (i + 1) else liveF l (i + 1)
def lvI : List Nat → V
 | [] => .lst [] (.ex 0)
 | _ :: l => .sl (1002 + l.length) 0 (l.length + 1) (.op 1)
def rowI : List Nat → OL
 | [] => []
 | x :: l => [(1002 + l.length, .cells true (ints (x :: l)))]
def nxI (l : List Nat) : Nat := 1002 + l.length
def preI (L : List EZ) : OL := [(1000, .cells true (flatZ L)), (1001, .cells false [.sl 1000 0 L.length (.op 4)])]
theorem preI_lt {L : List EZ} {N : Nat} (h : 1002 ≤ N) : keysLt (preI L) N := by
 intro e he
 simp only [preI, List.mem_cons, List.not_mem_nil, or_false] at he
 rcases he with rfl | rfl
 ·simp only; omega
 ·simp only; omega
theorem ints_app (xs ys : List Nat) : ints (xs ++ ys) = ints xs ++ ints ys := by simp [ints]
theorem ints_len (xs : List Nat) : (ints xs).length = xs.length := by simp [ints]
theorem live_app {nt : Nat} {tm : TM} {x y : RX} {z : List V} {c : LC} {lc : LM} (L : List EZ) (l : List Nat) (e : Nat) (hl : l.length ≤ 100000) (hx : rv [] tm x = some (lvI l)) (hy : rv [] tm y = some (.lst [[.int .i64 (e : Int)]] c)) :
  DoesR Go.Proofs.Try.prog [] nt tm ⟨nxI l, og (preI L ++ rowI l), lc⟩ (some (.app x y 1 8 z)) (.v (lvI (l ++ [e]))) ⟨nxI (l ++ [e]), og (preI L ++ rowI (l ++ [e])), lc⟩ := by
 cases l with
 | nil => exact rowApp0 (p := preI L) (nx := 1002) (preI_lt (Nat.le_refl _)) hx hy (fun e he => by simp at he; subst he; rfl) (by simp) (by simp [lim]) rfl rfl
 | cons e0 l =>
  have := rowApp (P := Go.Proofs.Try.prog) (gl := []) (nt := nt) (tm := tm) (x := x) (y := y) (z := z) (lc := lc) (bytes := 8) (p := preI L) (N := 1002 + l.length) (nx := 1002 + (l.length + 1)) (n := l.length + 1) (n2 := (l ++ [e]).length + 1) (sz := 1) (opn := true) (cs := ints (e0 :: l)) (fs := [[.int .i64 (e : Int)]]) (fl := ints (e0 :: (l ++ [e]))) (preI_lt (by omega)) (by show 1000 ≤ _; omega) (by omega) hx (by rw [ints_len]; simp) (by omega) hy (fun e he => by simp at he; subst he; rfl) (by simp) (by simp [lim] at hl ⊢; omega) (by simp) (by rw [← List.cons_append, ints_app]; rfl)
  have e1 : nxI (e0 :: l ++ [e]) = 1002 + (l.length + 1) + 1 := by simp [nxI]; omega
  have e2 : lvI (e0 :: l ++ [e]) = .sl (1002 + (l.length + 1)) 0 ((l ++ [e]).length + 1) (.op 1) := by simp [lvI]
  have e3 : rowI (e0 :: l ++ [e]) = [(1002 + (l.length + 1), .cells true (ints (e0 :: (l ++ [e]))))] := by simp [rowI]
  rw [e1, e2, e3]
  exact this
def l1Tm (L : List EZ) (most bytes : Int) (xs : List Nat) (i : Nat) : TM := [(1, .v (.int .i64 most)), (2, .v (.int .i64 bytes)), (3, .v (.ptr 1001 0)), (6, .v (.lst [] (.ex 0))), (7, .v (lvI xs)), (13, .v (.sl 1000 0 L.length (.op 4))), (14, .v (.int .i64 L.length)), (15, .v (.int .i64 i))]
theorem flatZ_read : ∀ (L : List EZ) (n : Nat) (e : EZ), L[n]? = some e → readC (flatZ L) (n * 4) 4 = some (encZ e)
 | [], n, e, h => by simp at h
 | a :: L, 0, e, h => by simp at h; subst h; rw [flatZ_cons, Nat.zero_mul]; simp [readC, takeN, encZ]
 | a :: L, n + 1, e, h => by
  rw [← flatZ_read L n e (by simpa using h), show (n + 1) * 4 = n * 4 + 4 by omega]
  rfl
theorem atLd4 {gl : List Nat} {nt : Nat} {tm : TM} {x : RX} {opn : Bool} {N n nx : Nat} {e : EZ} {L : List EZ} {lc : LM} {ol : OL} (hx : rvt gl tm x = some (.v (.ptr N (0 + n * 4)))) (hob : og ol N = some (.cells opn (flatZ L))) (he : L[n]? = some e) :
  LightR Go.Proofs.Try.prog gl nt tm ⟨nx, og ol, lc⟩ (some (.ld x (some 4))) (.v (.agg (encZ e))) := by
 refine lightX_sound ?_
 simp only [lightX, rl, hx, ldA, hob, partC, Nat.zero_add, flatZ_read L n e he]
 rfl
theorem live_loop {QN : S → Prop} {QX : X → S → Prop} (L : List EZ) (most bytes : Int) (hL : L.length ≤ 100000) : ∀ (m i : Nat) (xs : List Nat), i + m = L.length → xs.length ≤ i →
  (∀ tm ys, ys = xs ++ liveF (L.drop i) i → tg tm 1 = some (.v (.int .i64 most)) → tg tm 2 = some (.v (.int .i64 bytes)) → tg tm 3 = some (.v (.ptr 1001 0)) → tg tm 6 = some (.v (.lst [] (.ex 0))) → tg tm 7 = some (.v (lvI ys)) → QX (.exit 0) (SL.toS ⟨tm, [], none, nxI ys, preI L ++ rowI ys, []⟩)) →
  WLr Go.Proofs.Try.prog [] ⟨Go.Proofs.Try.f39.ntmps, none, 39⟩ rc39_L1 (SL.toS ⟨l1Tm L most bytes xs i, [], none, nxI xs, preI L ++ rowI xs, []⟩) QN QX := by
 intro m
 induction m with
 | zero =>
  intro i xs hi hlen hx
  unfold rc39_L1
  refine WLr.of ?_
  refine WR.seq (WR.reg (WQ.runS [] 1000 _ _ _ _ rfl (WQ.nilS ?_)))
  rw [show decide ((i : Int) < (L.length : Int)) = false from decide_eq_false (by omega)]
  refine WR.seq (WR.condF rfl (WR.exit ?_))
  refine hx _ xs ?_ rfl rfl rfl rfl rfl
  rw [List.drop_eq_nil_iff.2 (by omega)]; simp [liveF]
 | succ m ih =>
  intro i xs hi hlen hx
  obtain ⟨e, he⟩ : ∃ e, L[i]? = some e := ⟨_, List.getElem?_eq_getElem (by omega)⟩
  have hd : L.drop i = e :: L.drop (i + 1) := by
   rw [List.drop_eq_getElem_cons (by omega)]
   congr 1
   rw [List.getElem?_eq_getElem (by omega)] at he; exact Option.some.inj he
  rw [hd] at hx
  unfold rc39_L1
  refine WLr.of ?_
  refine WR.seq (WR.reg (WQ.runS [] 1000 _ _ _ _ rfl (WQ.nilS ?_)))
  rw [show decide ((i : Int) < (L.length : Int)) = true from decide_eq_true (by omega)]
  refine WR.seq (WR.condT rfl (WR.skip ?_))
  refine WR.seq (WR.block (WR.seq (WR.reg (WQ.runS [] 1 _ _ _ _ rfl ?_))))
  refine WQ.lightS rfl rfl rfl (rowIa rfl rfl (by omega : i < L.length)) rfl ?_
  refine WQ.lightS rfl rfl rfl (atLd4 rfl rfl he) rfl ?_
  refine WQ.runS [] 1000 _ _ _ _ rfl (WQ.nilS ?_)
  refine WR.seq (WR.reg (WQ.runS [] 1000 _ _ _ _ rfl (WQ.nilS ?_)))
  cases hlv : e.live with
  | true =>
   have hl : liveF (e :: L.drop (i + 1)) i = i :: liveF (L.drop (i + 1)) (i + 1) := by simp [liveF, hlv]
   refine WR.condT rfl (WR.reg (WQ.runS [] 3 _ _ _ _ rfl ?_))
   refine WQ.doesS rfl (live_app L xs i (by omega) rfl rfl) rfl ?_
   refine WQ.runS [] 1000 _ _ _ _ rfl (WQ.nilS ?_)
   unfold rc39_J1
   repeat (first | refine WR.seq ?_ | refine WR.block ?_ | refine WR.scope ?_ | refine WR.skip ?_ | refine WR.exit ?_ | refine WR.condT rfl ?_ | refine WR.condF rfl ?_ | refine WR.reg (WQ.runS [] 1000 _ _ _ _ rfl ?_) | refine WQ.nilS ?_ | refine WR.dreg hmix (DW.runS [] 1000 _ _ _ _ _ _ rfl ?_))
   rw [show IntKind.i64.wrap ((i : Int) + 1) = ((i + 1 : Nat) : Int) from by rw [wrap64 (by omega) (by omega)]; rfl]
   refine WIr.again (WLr.weak ?_ (ih (i + 1) (xs ++ [i]) (by omega) (by simp; omega) (fun tm ys hys => hx tm ys (by rw [hys, hl]; simp))))
   refine SW.tellR ?_ ?_
   ·repeat (first | exact .nil | refine .cons rfl (.v (VLe.refl _)) ?_ | refine .cons rfl (.l _ _ rfl) ?_ | refine .cons rfl (.v (VLe.unk _ _)) ?_)
   ·repeat (first | exact .nil | refine .cons rfl (.inl rfl) ?_)
  | false =>
   have hl : liveF (e :: L.drop (i + 1)) i = liveF (L.drop (i + 1)) (i + 1) := by simp [liveF, hlv]
   refine WR.condF rfl (WR.skip ?_)
   unfold rc39_J1
   repeat (first | refine WR.seq ?_ | refine WR.block ?_ | refine WR.scope ?_ | refine WR.skip ?_ | refine WR.exit ?_ | refine WR.condT rfl ?_ | refine WR.condF rfl ?_ | refine WR.reg (WQ.runS [] 1000 _ _ _ _ rfl ?_) | refine WQ.nilS ?_ | refine WR.dreg hmix (DW.runS [] 1000 _ _ _ _ _ _ rfl ?_))
   rw [show IntKind.i64.wrap ((i : Int) + 1) = ((i + 1 : Nat) : Int) from by rw [wrap64 (by omega) (by omega)]; rfl]
   refine WIr.again (WLr.weak ?_ (ih (i + 1) xs (by omega) (by omega) (fun tm ys hys => hx tm ys (by rw [hys, hl]))))
   refine SW.tellR ?_ ?_
   ·repeat (first | exact .nil | refine .cons rfl (.v (VLe.refl _)) ?_ | refine .cons rfl (.l _ _ rfl) ?_ | refine .cons rfl (.v (VLe.unk _ _)) ?_)
   ·repeat (first | exact .nil | refine .cons rfl (.inl rfl) ?_)
end Go.VM
end
