/- laid for this seat: VtMerge5 -/
import Derived.Test.YtonlemmcdecibaaVtMerge4
/- Merging in place, as the library does it. -/
set_option maxRecDepth 100000
set_option linter.unusedVariables false
set_option linter.unusedSimpArgs false
namespace Go.VM
open Go.RowKit
theorem upF_len : ∀ (m k : Nat) (xs : List Nat), (upF m k xs).length = xs.length
 | 0, k, xs => rfl
 | m + 1, k, xs => by
  unfold upF
  split
  ·rw [upF_len m]; simp
  ·rfl
theorem dnF_len : ∀ (m k : Nat) (xs : List Nat), (dnF m k xs).length = xs.length
 | 0, k, xs => rfl
 | m + 1, k, xs => by
  unfold dnF
  split
  ·rw [dnF_len m]; simp
  ·rfl
theorem upF_mem : ∀ (m k : Nat) (xs : List Nat) (z : Nat), z ∈ upF m k xs → z ∈ xs
 | 0, k, xs, z, h => h
 | m + 1, k, xs, z, h => by
  unfold upF at h
  split at h
  ·rename_i x y hx hy
   have := upF_mem m (k + 1) _ z h
   rcases List.mem_or_eq_of_mem_set this with g | g
   ·rcases List.mem_or_eq_of_mem_set g with g | g
    ·exact g
    ·rw [g]; exact List.mem_of_getElem? hy
   ·rw [g]; exact List.mem_of_getElem? hx
  ·exact h
theorem dnF_mem : ∀ (m k : Nat) (xs : List Nat) (z : Nat), z ∈ dnF m k xs → z ∈ xs
 | 0, k, xs, z, h => h
 | m + 1, k, xs, z, h => by
  unfold dnF at h
  split at h
  ·rename_i x y hx hy
   have := dnF_mem m (k - 1) _ z h
   rcases List.mem_or_eq_of_mem_set this with g | g
   ·rcases List.mem_or_eq_of_mem_set g with g | g
    ·exact g
    ·rw [g]; exact List.mem_of_getElem? hy
   ·rw [g]; exact List.mem_of_getElem? hx
  ·exact h
theorem rotL_len (m : Nat) : ∀ (f i j : Nat) (xs : List Nat), (rotL m f i j xs).2.length = xs.length
 | 0, i, j, xs => rfl
 | f + 1, i, j, xs => by
  unfold rotL
  split
  ·rfl
  ·split
   ·rw [rotL_len m f, swG_len]
   ·rw [rotL_len m f, swG_len]
theorem rotL_mem (m : Nat) : ∀ (f i j : Nat) (xs : List Nat) (z : Nat), z ∈ (rotL m f i j xs).2 → z ∈ xs
 | 0, i, j, xs, z, h => h
 | f + 1, i, j, xs, z, h => by
  unfold rotL at h
  split at h
  ·exact h
  ·split at h
   ·exact swG_mem _ _ _ _ _ _ (rotL_mem m f _ _ _ z h)
   ·exact swG_mem _ _ _ _ _ _ (rotL_mem m f _ _ _ z h)
theorem rotF_len (a m b : Nat) (xs : List Nat) : (rotF a m b xs).length = xs.length := by unfold rotF; rw [swG_len, rotL_len]
theorem rotF_mem (a m b : Nat) (xs : List Nat) (z : Nat) (h : z ∈ rotF a m b xs) : z ∈ xs := rotL_mem _ _ _ _ _ _ (swG_mem _ _ _ _ _ _ h)
def cutF (K : Nat → Int) (a m b : Nat) (xs : List Nat) : Nat :=
 let mid := (a + b) / 2
 bsH K (mid + m - 1) xs (b - a + 1) (if m > mid then mid + m - b else a) (if m > mid then mid else m)
def symF (K : Nat → Int) : Nat → Nat → Nat → Nat → List Nat → List Nat
 | 0, _, _, _, xs => xs
 | f + 1, a, m, b, xs =>
  if m - a = 1 then
   match xs[a]? with
   | some y => upF (bsF K y xs (b - m + 1) m b - 1 - a) a xs
   | none => xs
  else if b - m = 1 then
   match xs[m]? with
   | some y => dnF (m - bsG K y xs (m - a + 1) a m) m xs
   | none => xs
  else
   let mid := (a + b) / 2
   let s := cutF K a m b xs
   let e := mid + m - s
   let x1 := if s < m ∧ m < e then rotF s m e xs else xs
   let x2 := if a < s ∧ s < mid then symF K f a s mid x1 else x1
   if mid < e ∧ e < b then symF K f mid e b x2 else x2
theorem symF_len (K : Nat → Int) : ∀ (f a m b : Nat) (xs : List Nat), (symF K f a m b xs).length = xs.length
 | 0, _, _, _, xs => rfl
 | f + 1, a, m, b, xs => by
  unfold symF
  split
  ·split
   ·exact upF_len _ _ _
   ·rfl
  ·split
   ·split
    ·exact dnF_len _ _ _
    ·rfl
   ·simp only
    split <;> (try rw [symF_len K f]) <;> split <;> (try rw [symF_len K f]) <;> split <;> first | exact rotF_len _ _ _ _ | rfl
theorem symF_mem (K : Nat → Int) : ∀ (f a m b : Nat) (xs : List Nat) (z : Nat), z ∈ symF K f a m b xs → z ∈ xs
 | 0, _, _, _, xs, z, h => h
 | f + 1, a, m, b, xs, z, h => by
  unfold symF at h
  split at h
  ·split at h
   ·exact upF_mem _ _ _ _ h
   ·exact h
  ·split at h
   ·split at h
    ·exact dnF_mem _ _ _ _ h
    ·exact h
   ·simp only at h
    have h1 : ∀ (c d : Prop) [Decidable c] [Decidable d], z ∈ (if c then symF K f a (cutF K a m b xs) ((a + b) / 2) (if d then rotF (cutF K a m b xs) m ((a + b) / 2 + m - cutF K a m b xs) xs else xs) else (if d then rotF (cutF K a m b xs) m ((a + b) / 2 + m - cutF K a m b xs) xs else xs)) → z ∈ xs := by
     intro c d _ _ h
     have h0 : ∀ (d : Prop) [Decidable d], z ∈ (if d then rotF (cutF K a m b xs) m ((a + b) / 2 + m - cutF K a m b xs) xs else xs) → z ∈ xs := by
      intro d _ h
      split at h
      ·exact rotF_mem _ _ _ _ _ h
      ·exact h
     split at h
     ·exact h0 _ (symF_mem K f _ _ _ _ z h)
     ·exact h0 _ h
    split at h
    ·exact h1 _ _ (symF_mem K f _ _ _ _ z h)
    ·exact h1 _ _ h
theorem bsF_rng (K : Nat → Int) (y : Nat) (xs : List Nat) : ∀ (f i j : Nat), i ≤ j → i ≤ bsF K y xs f i j ∧ bsF K y xs f i j ≤ j
 | 0, i, j, h => ⟨Nat.le_refl _, h⟩
 | f + 1, i, j, h => by
  unfold bsF
  split
  ·split
   ·split
    ·have := bsF_rng K y xs f ((i + j) / 2 + 1) j (by omega); omega
    ·have := bsF_rng K y xs f i ((i + j) / 2) (by omega); omega
   ·omega
  ·omega
theorem bsG_rng (K : Nat → Int) (y : Nat) (xs : List Nat) : ∀ (f i j : Nat), i ≤ j → i ≤ bsG K y xs f i j ∧ bsG K y xs f i j ≤ j
 | 0, i, j, h => ⟨Nat.le_refl _, h⟩
 | f + 1, i, j, h => by
  unfold bsG
  split
  ·split
   ·split
    ·have := bsG_rng K y xs f i ((i + j) / 2) (by omega); omega
    ·have := bsG_rng K y xs f ((i + j) / 2 + 1) j (by omega); omega
   ·omega
  ·omega
theorem bsH_rng (K : Nat → Int) (p : Nat) (xs : List Nat) : ∀ (f i j : Nat), i ≤ j → i ≤ bsH K p xs f i j ∧ bsH K p xs f i j ≤ j
 | 0, i, j, h => ⟨Nat.le_refl _, h⟩
 | f + 1, i, j, h => by
  unfold bsH
  split
  ·split
   ·split
    ·have := bsH_rng K p xs f i ((i + j) / 2) (by omega); omega
    ·have := bsH_rng K p xs f ((i + j) / 2 + 1) j (by omega); omega
   ·omega
  ·omega
theorem cutF_rng (K : Nat → Int) (a m b : Nat) (xs : List Nat) (h1 : a < m) (h2 : m < b) : a ≤ cutF K a m b xs ∧ cutF K a m b xs ≤ m ∧ cutF K a m b xs ≤ (a + b) / 2 ∧ (a + b) / 2 + m ≤ cutF K a m b xs + b := by
 unfold cutF
 simp only
 by_cases h : m > (a + b) / 2
 ·rw [if_pos h, if_pos h]
  have := bsH_rng K ((a + b) / 2 + m - 1) xs (b - a + 1) ((a + b) / 2 + m - b) ((a + b) / 2) (by omega)
  omega
 ·rw [if_neg h, if_neg h]
  have := bsH_rng K ((a + b) / 2 + m - 1) xs (b - a + 1) a m (by omega)
  omega
theorem symF_step (K : Nat → Int) (f a m b : Nat) (xs : List Nat) (mid s e : Nat) (x1 x2 : List Nat) (q1 : ¬ m - a = 1) (q2 : ¬ b - m = 1) (hmid : mid = (a + b) / 2) (hs : s = cutF K a m b xs) (he : e = mid + m - s)
  (h1 : x1 = if s < m ∧ m < e then rotF s m e xs else xs) (h2 : x2 = if a < s ∧ s < mid then symF K f a s mid x1 else x1) :
  symF K (f + 1) a m b xs = if mid < e ∧ e < b then symF K f mid e b x2 else x2 := by
 subst h2 h1 he hs hmid
 rw [symF, if_neg q1, if_neg q2]
noncomputable def fr83 : Fr := ⟨Go.Proofs.Try.f83.ntmps, none, 83⟩
def eTm (a m b mid s e n : Nat) : TM := [(0, .v (.sl 1001 0 n (.op 1))), (1, .v (.int .i64 a)), (2, .v (.int .i64 m)), (3, .v (.int .i64 b)), (4, .v (.fn (.func 66) [] [.ptr 1000 0])), (18, .v (.int .i64 mid)), (20, .v (.int .i64 s)), (24, .v (.int .i64 e))]
def Sym (L : List EZ) (K : Nat → Int) (n f : Nat) : Prop := ∀ (a m b : Nat) (xs : List Nat), b - a ≤ f → a < m → m < b → b ≤ n → xs.length = n → (∀ x ∈ xs, x < L.length) →
  SCall Go.Proofs.Try.prog [] 83 [.sl 1001 0 n (.op 1), .int .i64 a, .int .i64 m, .int .i64 b, .fn (.func 66) [] [.ptr 1000 0]] none ⟨1002, og (sol L xs), []⟩ (.ret (.tup [])) none ⟨1002, og (sol L (symF K f a m b xs)), []⟩
theorem sym_j5 {QN : S → Prop} {QX : X → S → Prop} (L : List EZ) (K : Nat → Int) (n f a m b mid s e : Nat) (ih : Sym L K n f) (hn : n ≤ 4000) (hf : b - mid ≤ f) (hb : b ≤ n) (xs : List Nat) (hlen : xs.length = n) (hin : ∀ x ∈ xs, x < L.length)
  (hx : ∀ tm, QN (SL.toS ⟨tm, [], none, 1002, sol L (if mid < e ∧ e < b then symF K f mid e b xs else xs), []⟩)) :
  WR Go.Proofs.Try.prog [] fr83 rc83_J5 (SL.toS ⟨eTm a m b mid s e n, [], none, 1002, sol L xs, []⟩) QN QX := by
 unfold rc83_J5
 refine WR.seq (WR.reg (WQ.runS [] 4 _ _ _ _ rfl ?_))
 by_cases h1 : mid < e
 ·rw [show decide ((mid : Int) < (e : Int)) = true from decide_eq_true (by omega)]
  refine WQ.runS [] 1000 _ _ _ _ rfl (WQ.nilS ?_)
  by_cases h2 : e < b
  ·rw [if_pos ⟨h1, h2⟩] at hx
   rw [show decide ((e : Int) < (b : Int)) = true from decide_eq_true (by omega)]
   refine WR.condT rfl (WR.reg (WQ.runS [] 5 _ _ _ _ rfl ?_))
   refine WQ.callH rfl rfl rfl rfl rfl (ih mid e b xs hf h1 h2 hb hlen hin) .base rfl (WQ.runS [] 1000 _ _ _ _ rfl (WQ.nilS ?_))
   exact hx _
  ·rw [if_neg (by omega)] at hx
   rw [show decide ((e : Int) < (b : Int)) = false from decide_eq_false (by omega)]
   refine WR.condF rfl (WR.skip ?_)
   exact hx _
 ·rw [if_neg (by omega)] at hx
  rw [show decide ((mid : Int) < (e : Int)) = false from decide_eq_false (by omega)]
  refine WQ.runS [] 1000 _ _ _ _ rfl (WQ.nilS ?_)
  refine WR.condF rfl (WR.skip ?_)
  exact hx _
theorem sym_j6 {QN : S → Prop} {QX : X → S → Prop} (L : List EZ) (K : Nat → Int) (n f a m b mid s e : Nat) (ih : Sym L K n f) (hn : n ≤ 4000) (hf : b - mid ≤ f) (hf2 : mid - a ≤ f) (hb : b ≤ n) (hmb : mid ≤ b) (xs : List Nat) (hlen : xs.length = n) (hin : ∀ x ∈ xs, x < L.length)
  (x2 : List Nat) (he : x2 = if a < s ∧ s < mid then symF K f a s mid xs else xs)
  (hx : ∀ tm, QN (SL.toS ⟨tm, [], none, 1002, sol L (if mid < e ∧ e < b then symF K f mid e b x2 else x2), []⟩)) :
  WR Go.Proofs.Try.prog [] fr83 rc83_J6 (SL.toS ⟨eTm a m b mid s e n, [], none, 1002, sol L xs, []⟩) QN QX := by
 have hend : ∀ tm, SW [] fr83 (SL.toS ⟨tm, [], none, 1002, sol L x2, []⟩) (SL.toS ⟨eTm a m b mid s e n, [], none, 1002, sol L x2, []⟩) → WR Go.Proofs.Try.prog [] fr83 rc83_J5 (SL.toS ⟨tm, [], none, 1002, sol L x2, []⟩) QN QX := by
  intro tm hw
  refine WR.weak hw (sym_j5 L K n f a m b mid s e ih hn hf hb x2 ?_ ?_ hx)
  ·rw [he]; split
   ·rw [symF_len]; exact hlen
   ·exact hlen
  ·rw [he]; intro x hx'; split at hx'
   ·exact hin x (symF_mem K f _ _ _ _ x hx')
   ·exact hin x hx'
 unfold rc83_J6
 refine WR.seq (WR.seq (WR.reg (WQ.runS [] 4 _ _ _ _ rfl ?_)))
 by_cases h1 : a < s
 ·rw [show decide ((a : Int) < (s : Int)) = true from decide_eq_true (by omega)]
  refine WQ.runS [] 1000 _ _ _ _ rfl (WQ.nilS ?_)
  by_cases h2 : s < mid
  ·rw [if_pos ⟨h1, h2⟩] at he
   rw [show decide ((s : Int) < (mid : Int)) = true from decide_eq_true (by omega)]
   refine WR.condT rfl (WR.reg (WQ.runS [] 5 _ _ _ _ rfl ?_))
   refine WQ.callH rfl rfl rfl rfl rfl (ih a s mid xs hf2 h1 h2 (by omega) hlen hin) .base rfl (WQ.runS [] 1000 _ _ _ _ rfl (WQ.nilS ?_))
   rw [← he]
   refine hend _ ?_
   refine SW.tellR ?_ ?_
   ·repeat (first | exact .nil | refine .cons rfl (.v (VLe.refl _)) ?_ | refine .cons rfl (.l _ _ rfl) ?_ | refine .cons rfl (.v (VLe.unk _ _)) ?_)
   ·repeat (first | exact .nil | refine .cons rfl (.inl rfl) ?_)
  ·rw [if_neg (by omega)] at he
   rw [show decide ((s : Int) < (mid : Int)) = false from decide_eq_false (by omega)]
   refine WR.condF rfl (WR.skip ?_)
   rw [← he]
   refine hend _ ?_
   refine SW.tellR ?_ ?_
   ·repeat (first | exact .nil | refine .cons rfl (.v (VLe.refl _)) ?_ | refine .cons rfl (.l _ _ rfl) ?_ | refine .cons rfl (.v (VLe.unk _ _)) ?_)
   ·repeat (first | exact .nil | refine .cons rfl (.inl rfl) ?_)
 ·rw [if_neg (by omega)] at he
  rw [show decide ((a : Int) < (s : Int)) = false from decide_eq_false (by omega)]
  refine WQ.runS [] 1000 _ _ _ _ rfl (WQ.nilS ?_)
  refine WR.condF rfl (WR.skip ?_)
  rw [← he]
  refine hend _ ?_
  refine SW.tellR ?_ ?_
  ·repeat (first | exact .nil | refine .cons rfl (.v (VLe.refl _)) ?_ | refine .cons rfl (.l _ _ rfl) ?_ | refine .cons rfl (.v (VLe.unk _ _)) ?_)
  ·repeat (first | exact .nil | refine .cons rfl (.inl rfl) ?_)
theorem sym_j7 {QN : S → Prop} {QX : X → S → Prop} (L : List EZ) (K : Nat → Int) (n f a m b mid s e : Nat) (ih : Sym L K n f) (hn : n ≤ 4000) (hf : b - mid ≤ f) (hf2 : mid - a ≤ f) (hb : b ≤ n) (hmb : mid ≤ b) (hsm : s ≤ m) (hee : e = mid + m - s) (hm : m ≤ n) (heb : e ≤ b) (xs : List Nat) (hlen : xs.length = n) (hin : ∀ x ∈ xs, x < L.length)
  (x1 x2 : List Nat) (he1 : x1 = if s < m ∧ m < e then rotF s m e xs else xs) (he : x2 = if a < s ∧ s < mid then symF K f a s mid x1 else x1)
  (hx : ∀ tm, QN (SL.toS ⟨tm, [], none, 1002, sol L (if mid < e ∧ e < b then symF K f mid e b x2 else x2), []⟩)) :
  WR Go.Proofs.Try.prog [] fr83 rc83_J7 (SL.toS ⟨[(0, .v (.sl 1001 0 n (.op 1))), (1, .v (.int .i64 a)), (2, .v (.int .i64 m)), (3, .v (.int .i64 b)), (4, .v (.fn (.func 66) [] [.ptr 1000 0])), (18, .v (.int .i64 mid)), (19, .v (.int .i64 (mid + m : Nat))), (20, .v (.int .i64 s))], [], none, 1002, sol L xs, []⟩) QN QX := by
 have hend : ∀ tm, SW [] fr83 (SL.toS ⟨tm, [], none, 1002, sol L x1, []⟩) (SL.toS ⟨eTm a m b mid s e n, [], none, 1002, sol L x1, []⟩) → WR Go.Proofs.Try.prog [] fr83 rc83_J6 (SL.toS ⟨tm, [], none, 1002, sol L x1, []⟩) QN QX := by
  intro tm hw
  refine WR.weak hw (sym_j6 L K n f a m b mid s e ih hn hf hf2 hb hmb x1 ?_ ?_ x2 he hx)
  ·rw [he1]; split
   ·rw [rotF_len]; exact hlen
   ·exact hlen
  ·rw [he1]; intro x hx'; split at hx'
   ·exact hin x (rotF_mem _ _ _ _ x hx')
   ·exact hin x hx'
 unfold rc83_J7
 refine WR.seq (WR.reg (WQ.runS [] 1000 _ _ _ _ rfl (WQ.nilS ?_)))
 rw [show IntKind.i64.wrap (((mid + m : Nat) : Int) - (s : Int)) = (e : Int) from by rw [wrap64 (by omega) (by omega)]; omega]
 refine WR.seq (WR.seq (WR.reg (WQ.runS [] 4 _ _ _ _ rfl ?_)))
 by_cases h1 : s < m
 ·rw [show decide ((s : Int) < (m : Int)) = true from decide_eq_true (by omega)]
  refine WQ.runS [] 1000 _ _ _ _ rfl (WQ.nilS ?_)
  by_cases h2 : m < e
  ·rw [if_pos ⟨h1, h2⟩] at he1
   rw [show decide ((m : Int) < (e : Int)) = true from decide_eq_true (by omega)]
   refine WR.condT rfl (WR.reg (WQ.runS [] 5 _ _ _ _ rfl ?_))
   refine WQ.callH rfl rfl rfl rfl rfl (rot_core L s m e n hn h1 h2 (by omega) xs hlen) .base rfl (WQ.runS [] 1000 _ _ _ _ rfl (WQ.nilS ?_))
   rw [← he1]
   refine hend _ ?_
   refine SW.tellR ?_ ?_
   ·repeat (first | exact .nil | refine .cons rfl (.v (VLe.refl _)) ?_ | refine .cons rfl (.l _ _ rfl) ?_ | refine .cons rfl (.v (VLe.unk _ _)) ?_)
   ·repeat (first | exact .nil | refine .cons rfl (.inl rfl) ?_)
  ·rw [if_neg (by omega)] at he1
   rw [show decide ((m : Int) < (e : Int)) = false from decide_eq_false (by omega)]
   refine WR.condF rfl (WR.skip ?_)
   rw [← he1]
   refine hend _ ?_
   refine SW.tellR ?_ ?_
   ·repeat (first | exact .nil | refine .cons rfl (.v (VLe.refl _)) ?_ | refine .cons rfl (.l _ _ rfl) ?_ | refine .cons rfl (.v (VLe.unk _ _)) ?_)
   ·repeat (first | exact .nil | refine .cons rfl (.inl rfl) ?_)
 ·rw [if_neg (by omega)] at he1
  rw [show decide ((s : Int) < (m : Int)) = false from decide_eq_false (by omega)]
  refine WQ.runS [] 1000 _ _ _ _ rfl (WQ.nilS ?_)
  refine WR.condF rfl (WR.skip ?_)
  rw [← he1]
  refine hend _ ?_
  refine SW.tellR ?_ ?_
  ·repeat (first | exact .nil | refine .cons rfl (.v (VLe.refl _)) ?_ | refine .cons rfl (.l _ _ rfl) ?_ | refine .cons rfl (.v (VLe.unk _ _)) ?_)
  ·repeat (first | exact .nil | refine .cons rfl (.inl rfl) ?_)
theorem sym_core (L : List EZ) (K : Nat → Int) (n : Nat) (hn : n ≤ 4000) (hK : ∀ x e, L[x]? = some e → K x = e.last) : ∀ f, Sym L K n f := by
 intro f
 induction f with
 | zero => intro a m b xs h1 h2 h3; omega
 | succ f ih =>
  intro a m b xs hf h1 h2 h3 hlen hin
  refine SCall.listed (fn := Go.Proofs.Try.f83) (by kernel_rfl) res83 (by kernel_rfl) (by kernel_rfl) (Nat.le_refl _) rfl ((by exact ⟨⟨⟨encZs_in _, trivial⟩, trivial⟩, ints_in _, trivial⟩)) trivial ?_
  unfold rc83
  refine WR.seq (WR.seq (WR.reg (WQ.runS [] 1000 _ _ _ _ rfl (WQ.nilS ?_))))
  rw [show IntKind.i64.wrap ((m : Int) - (a : Int)) = ((m - a : Nat) : Int) from by rw [wrap64 (by omega) (by omega)]; omega]
  by_cases q1 : m - a = 1
  ·rw [show decide (((m - a : Nat) : Int) = 1) = true from decide_eq_true (by omega)]
   obtain ⟨y, hy⟩ : ∃ y, xs[a]? = some y := ⟨_, List.getElem?_eq_getElem (by omega)⟩
   have hs : symF K (f + 1) a m b xs = upF (bsF K y xs (b - m + 1) m b - 1 - a) a xs := by
    simp only [symF, if_pos q1, hy]
   rw [hs]
   have rng := bsF_rng K y xs (b - m + 1) m b (by omega)
   refine WR.condT rfl (WR.seq (WR.reg (WQ.runS [] 1000 _ _ _ _ rfl (WQ.nilS (WR.seq (WR.reg (WQ.runS [] 1000 _ _ _ _ rfl (WQ.nilS ?_))))))))
   refine WR.seq (WR.block (WR.loop (WLr.weak (s := SL.toS ⟨bTm a m b m b n, [], none, 1002, sol L xs, []⟩) ?_ (bs1_loop L K a m b n hn (by omega) hK xs hlen hin y hy (b - m + 1) m b (by omega) h3 (by omega) (fun tm t0 t1 t10 => ?_)))))
   ·refine SW.tellR ?_ ?_
    ·repeat (first | exact .nil | refine .cons rfl (.v (VLe.refl _)) ?_ | refine .cons rfl (.l _ _ rfl) ?_ | refine .cons rfl (.v (VLe.unk _ _)) ?_)
    ·repeat (first | exact .nil | refine .cons rfl (.inl rfl) ?_)
   refine WR.weak (s := SL.toS ⟨[(0, .v (.sl 1001 0 n (.op 1))), (1, .v (.int .i64 a)), (10, .v (.int .i64 (bsF K y xs (b - m + 1) m b)))], [], none, 1002, sol L xs, []⟩) (SW.tellR (.cons t0 (.v (VLe.refl _)) (.cons t1 (.v (VLe.refl _)) (.cons t10 (.v (VLe.refl _)) .nil))) .nil) ?_
   unfold rc83_J2
   refine WR.seq (WR.seq (WR.reg (WQ.runS [] 1000 _ _ _ _ rfl (WQ.nilS ?_))))
   refine WR.block (WR.loop (WLr.weak (s := SL.toS ⟨[(0, .v (.sl 1001 0 n (.op 1))), (10, .v (.int .i64 (bsF K y xs (b - m + 1) m b))), (13, .v (.int .i64 a))], [], none, 1002, sol L xs, []⟩) ?_ (up_loop L (bsF K y xs (b - m + 1) m b) n hn (by omega) (by omega) (bsF K y xs (b - m + 1) m b - 1 - a) a xs (by omega) hlen (by omega) (fun tm => ?_))))
   ·refine SW.tellR ?_ ?_
    ·repeat (first | exact .nil | refine .cons rfl (.v (VLe.refl _)) ?_ | refine .cons rfl (.l _ _ rfl) ?_ | refine .cons rfl (.v (VLe.unk _ _)) ?_)
    ·repeat (first | exact .nil | refine .cons rfl (.inl rfl) ?_)
   refine WR.ret ⟨rfl, rfl, ⟨_, rfl, VLe.refl _⟩, fun b _ => rfl⟩
  ·rw [show decide (((m - a : Nat) : Int) = 1) = false from decide_eq_false (by omega)]
   refine WR.condF rfl (WR.skip ?_)
   unfold rc83_J10
   refine WR.seq (WR.seq (WR.reg (WQ.runS [] 1000 _ _ _ _ rfl (WQ.nilS ?_))))
   rw [show IntKind.i64.wrap ((b : Int) - (m : Int)) = ((b - m : Nat) : Int) from by rw [wrap64 (by omega) (by omega)]; omega]
   by_cases q2 : b - m = 1
   ·rw [show decide (((b - m : Nat) : Int) = 1) = true from decide_eq_true (by omega)]
    obtain ⟨y, hy⟩ : ∃ y, xs[m]? = some y := ⟨_, List.getElem?_eq_getElem (by omega)⟩
    have hs : symF K (f + 1) a m b xs = dnF (m - bsG K y xs (m - a + 1) a m) m xs := by
     simp only [symF, if_neg q1, if_pos q2, hy]
    rw [hs]
    have rng := bsG_rng K y xs (m - a + 1) a m (by omega)
    refine WR.condT rfl (WR.seq (WR.reg (WQ.runS [] 1000 _ _ _ _ rfl (WQ.nilS (WR.seq (WR.reg (WQ.runS [] 1000 _ _ _ _ rfl (WQ.nilS ?_))))))))
    refine WR.seq (WR.block (WR.loop (WLr.weak (s := SL.toS ⟨cTm3 a m b a m n, [], none, 1002, sol L xs, []⟩) ?_ (bs2_loop L K a m b n hn (by omega) hK xs hlen hin y hy (m - a + 1) a m (by omega) (by omega) (by omega) (fun tm t0 t2 t14 => ?_)))))
    ·refine SW.tellR ?_ ?_
     ·repeat (first | exact .nil | refine .cons rfl (.v (VLe.refl _)) ?_ | refine .cons rfl (.l _ _ rfl) ?_ | refine .cons rfl (.v (VLe.unk _ _)) ?_)
     ·repeat (first | exact .nil | refine .cons rfl (.inl rfl) ?_)
    refine WR.weak (s := SL.toS ⟨[(0, .v (.sl 1001 0 n (.op 1))), (2, .v (.int .i64 m)), (14, .v (.int .i64 (bsG K y xs (m - a + 1) a m)))], [], none, 1002, sol L xs, []⟩) (SW.tellR (.cons t0 (.v (VLe.refl _)) (.cons t2 (.v (VLe.refl _)) (.cons t14 (.v (VLe.refl _)) .nil))) .nil) ?_
    unfold rc83_J4
    refine WR.seq (WR.seq (WR.reg (WQ.runS [] 1000 _ _ _ _ rfl (WQ.nilS ?_))))
    refine WR.block (WR.loop (WLr.weak (s := SL.toS ⟨[(0, .v (.sl 1001 0 n (.op 1))), (14, .v (.int .i64 (bsG K y xs (m - a + 1) a m))), (17, .v (.int .i64 m))], [], none, 1002, sol L xs, []⟩) ?_ (dn_loop L (bsG K y xs (m - a + 1) a m) n hn (m - bsG K y xs (m - a + 1) a m) m xs (by omega) hlen (by omega) (fun tm => ?_))))
    ·refine SW.tellR ?_ ?_
     ·repeat (first | exact .nil | refine .cons rfl (.v (VLe.refl _)) ?_ | refine .cons rfl (.l _ _ rfl) ?_ | refine .cons rfl (.v (VLe.unk _ _)) ?_)
     ·repeat (first | exact .nil | refine .cons rfl (.inl rfl) ?_)
    refine WR.ret ⟨rfl, rfl, ⟨_, rfl, VLe.refl _⟩, fun b _ => rfl⟩
   ·rw [show decide (((b - m : Nat) : Int) = 1) = false from decide_eq_false (by omega)]
    refine WR.condF rfl (WR.skip ?_)
    unfold rc83_J9
    refine WR.seq (WR.reg (WQ.runS [] 1000 _ _ _ _ rfl (WQ.nilS ?_)))
    rw [half (by omega)]
    obtain ⟨mid, hmid⟩ : ∃ mid, mid = (a + b) / 2 := ⟨_, rfl⟩
    rw [← hmid]
    refine WR.seq (WR.reg (WQ.runS [] 1000 _ _ _ _ rfl (WQ.nilS ?_)))
    rw [show IntKind.i64.wrap ((mid : Int) + (m : Int)) = ((mid + m : Nat) : Int) from by rw [wrap64 (by omega) (by omega)]; simp]
    have rng := cutF_rng K a m b xs h1 h2
    rw [← hmid] at rng
    have hfin : ∀ s0 r0 : Nat, cutF K a m b xs = bsH K (mid + m - 1) xs (b - a + 1) s0 r0 → r0 ≤ mid → r0 ≤ m → s0 ≤ r0 → a ≤ s0 → mid + m ≤ s0 + b → ∀ tm QX, SW [] fr83 (SL.toS ⟨tm, [], none, 1002, sol L xs, []⟩) (SL.toS ⟨[(0, .v (.sl 1001 0 n (.op 1))), (1, .v (.int .i64 a)), (2, .v (.int .i64 m)), (3, .v (.int .i64 b)), (4, .v (.fn (.func 66) [] [.ptr 1000 0])), (18, .v (.int .i64 mid)), (19, .v (.int .i64 (mid + m : Nat))), (20, .v (.int .i64 s0)), (21, .v (.int .i64 r0))], [], none, 1002, sol L xs, []⟩) →
      WR Go.Proofs.Try.prog [] fr83 rc83_J8 (SL.toS ⟨tm, [], none, 1002, sol L xs, []⟩) (RetS Go.Proofs.Try.prog Go.Proofs.Try.f83 (.tup []) 1002 (sol L (symF K (f + 1) a m b xs))) QX := by
     intro s0 r0 hcut g1 g2 g3 g4 g5 tm QX hw
     refine WR.weak hw ?_
     unfold rc83_J8
     refine WR.seq (WR.reg (WQ.runS [] 1000 _ _ _ _ rfl (WQ.nilS ?_)))
     rw [show IntKind.i64.wrap (((mid + m : Nat) : Int) - 1) = ((mid + m - 1 : Nat) : Int) from by rw [wrap64 (by omega) (by omega)]; omega]
     refine WR.seq (WR.block (WR.loop (WLr.weak (s := SL.toS ⟨dTm3 a m b mid (mid + m) (mid + m - 1) s0 r0 n, [], none, 1002, sol L xs, []⟩) ?_ (bs3_loop L K a m b mid (mid + m) (mid + m - 1) n r0 hn (by omega) hK xs hlen hin (by omega) (by omega) (b - a + 1) s0 r0 (by omega) (Nat.le_refl _) g3 (by omega) (fun tm t0 t1 t2 t3 t4 t18 t19 t20 => ?_)))))
     ·refine SW.tellR ?_ ?_
      ·repeat (first | exact .nil | refine .cons rfl (.v (VLe.refl _)) ?_ | refine .cons rfl (.l _ _ rfl) ?_ | refine .cons rfl (.v (VLe.unk _ _)) ?_)
      ·repeat (first | exact .nil | refine .cons rfl (.inl rfl) ?_)
     rw [← hcut] at t20
     refine WR.weak (SW.tellR (.cons t0 (.v (VLe.refl _)) (.cons t1 (.v (VLe.refl _)) (.cons t2 (.v (VLe.refl _)) (.cons t3 (.v (VLe.refl _)) (.cons t4 (.v (VLe.refl _)) (.cons t18 (.v (VLe.refl _)) (.cons t19 (.v (VLe.refl _)) (.cons t20 (.v (VLe.refl _)) .nil)))))))) .nil) ?_
     refine sym_j7 L K n f a m b mid (cutF K a m b xs) (mid + m - cutF K a m b xs) ih hn (by omega) (by omega) h3 (by omega) (by omega) rfl (by omega) (by omega) xs hlen hin _ _ rfl rfl (fun tm => ?_)
     rw [symF_step K f a m b xs mid _ _ _ _ q1 q2 hmid rfl rfl rfl rfl]
     exact ⟨rfl, rfl, ⟨_, rfl, VLe.refl _⟩, fun b _ => rfl⟩
    refine WR.seq (WR.reg (WQ.runS [] 1000 _ _ _ _ rfl (WQ.nilS ?_)))
    refine WR.seq (WR.seq (WR.reg (WQ.runS [] 1000 _ _ _ _ rfl (WQ.nilS ?_))))
    by_cases q3 : m > mid
    ·rw [show decide ((m : Int) > (mid : Int)) = true from decide_eq_true (by omega)]
     refine WR.condT rfl (WR.seq (WR.reg (WQ.runS [] 1000 _ _ _ _ rfl (WQ.nilS (WR.reg (WQ.runS [] 1000 _ _ _ _ rfl (WQ.nilS ?_)))))))
     rw [show IntKind.i64.wrap (((mid + m : Nat) : Int) - (b : Int)) = ((mid + m - b : Nat) : Int) from by rw [wrap64 (by omega) (by omega)]; omega]
     refine hfin (mid + m - b) mid (by unfold cutF; simp only [← hmid, if_pos q3]) (by omega) (by omega) (by omega) (by omega) (by omega) _ _ ?_
     refine SW.tellR ?_ ?_
     ·repeat (first | exact .nil | refine .cons rfl (.v (VLe.refl _)) ?_ | refine .cons rfl (.l _ _ rfl) ?_ | refine .cons rfl (.v (VLe.unk _ _)) ?_)
     ·repeat (first | exact .nil | refine .cons rfl (.inl rfl) ?_)
    ·rw [show decide ((m : Int) > (mid : Int)) = false from decide_eq_false (by omega)]
     refine WR.condF rfl (WR.seq (WR.reg (WQ.runS [] 1000 _ _ _ _ rfl (WQ.nilS (WR.reg (WQ.runS [] 1000 _ _ _ _ rfl (WQ.nilS ?_)))))))
     refine hfin a m (by unfold cutF; simp only [← hmid, if_neg q3]) (by omega) (by omega) (by omega) (by omega) (by omega) _ _ ?_
     refine SW.tellR ?_ ?_
     ·repeat (first | exact .nil | refine .cons rfl (.v (VLe.refl _)) ?_ | refine .cons rfl (.l _ _ rfl) ?_ | refine .cons rfl (.v (VLe.unk _ _)) ?_)
     ·repeat (first | exact .nil | refine .cons rfl (.inl rfl) ?_)
end Go.VM
