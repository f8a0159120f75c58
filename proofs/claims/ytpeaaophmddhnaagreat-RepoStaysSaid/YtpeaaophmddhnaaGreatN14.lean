/-
  An interpreter over values is sound, part 14.
-/
import Derived.Test.YtpeaaophmddhnaaGreatN13
namespace Go.Proofs.YtpeaaophmddhnaaGreat.LI
open Go Go.RowKit
open KV (toL)
open KV.toL (toLs)
theorem qUb : Ck.ok.val = true := by simp [Ck.val]
theorem lJb (b : Bool) : (Ck.is b).val = b := by cases b <;> rfl
theorem nFb (a b : Ck) : (Ck.and a b).val = (a.val && b.val) := by
 have : ∀ x y : Bool, x = a.val → y = b.val → (Ck.and a b).val = (x && y) := by
  intro x y h1 h2
  subst h1 h2
  rfl
 exact this _ _ rfl rfl
theorem pDb (a b : Ck) : (Ck.and a b).val = true ↔ a.val = true ∧ b.val = true := by rw [nFb, Bool.and_eq_true]
theorem pMb (p : Prop) [Decidable p] : (Ck.is (decide p)).val = true ↔ p := by rw [lJb, decide_eq_true_iff]
def fit (n : Nat) : Bool := Nat.ble n 4611686018427387903
abbrev big : Int := 4611686018427387904
theorem gXb (n : Nat) : fit n = true ↔ (n : Int) < big := by
 unfold fit big
 rw [Nat.ble_eq]
 omega
theorem qYb {n : Nat} (h : (n : Int) < big) : fit n = true := (gXb n).2 h
theorem pEb (n : Nat) : (Ck.is (fit n)).val = true ↔ (n : Int) < big := by rw [lJb, gXb]
def tyP (P : Program) : Nat → TypeId → Option Ty
 | 0, _ => none
 | n + 1, t => match P.underlying t with
  | some .bool => some .bool
  | some .string => some .str
  | some (.int .u8) => some .byte
  | some (.int k) => some (.int k)
  | some (.slice e) => match tyP P n e with
   | some t => some (.list t)
   | none => none
  | some (.array m e) => match tyP P n e with
   | some t => if m ≤ 8 then some ((List.replicate m t).foldr .pair .unit) else none
   | none => none
  | some (.struct fs) => fs.toList.foldr (fun f acc => match tyP P n f.type, acc with
   | some a, some b => some (.pair a b)
   | _, _ => none) (some .unit)
  | _ => none
def nTa : List KV → Option (Ck × KV)
 | [.sc (.string s), .sc (.int .u8 c)] => some (.ok, .sc (.int .i64 (Lib.indexByte s.data.toList c.toNat.toUInt8)))
 | [.lst .byte l, .sc (.int .u8 c)] => some (.ok, .sc (.int .i64 (Lib.indexByte l c.toNat.toUInt8)))
 | [.nils, .sc (.int .u8 c)] => some (.ok, .sc (.int .i64 (Lib.indexByte [] c.toNat.toUInt8)))
 | _ => none
def kZb : List KV → Option (Ck × KV)
 | [.sc (.string s), .sc (.int .u8 c)] => some (.ok, .sc (.int .i64 (s.data.toList.count c.toNat.toUInt8)))
 | [.lst .byte l, .sc (.int .u8 c)] => some (.ok, .sc (.int .i64 (List.count (α := UInt8) c.toNat.toUInt8 l)))
 | _ => none
theorem tMa (l : List UInt8) : xJa (kBb .byte l) = some l := mBa l
theorem vVa {args : List KV} {c : Ck} {v : KV} (h : nTa args = some (c, v)) : hUa (toLs args) = some v.toL ∧ fAa v = true := by
 unfold nTa at h
 split at h <;> cases h
 ·exact ⟨rfl, rfl⟩
 ·refine ⟨?_, rfl⟩
  simp only [toLs, toL, hUa]
  exact (congrArg (Option.map _) (tMa _)).trans rfl
 ·exact ⟨rfl, rfl⟩
theorem nYb {args : List KV} {c : Ck} {v : KV} (h : kZb args = some (c, v)) : bZb (toLs args) = some v.toL ∧ fAa v = true := by
 unfold kZb at h
 split at h <;> cases h
 ·exact ⟨rfl, rfl⟩
 ·refine ⟨?_, rfl⟩
  simp only [toLs, toL, bZb]
  exact (congrArg (Option.map _) (tMa _)).trans rfl
theorem Rep.byte {P : Program} {t : TypeId} (ht : P.underlying t = some (.int .u8)) : Rep P t (eEa .byte) (fun _ : UInt8 => True) where
 get := fun h hw => by
  obtain ⟨n, h1, h2⟩ := (Rep.int (P := P) ht).get h hw
  have h3 : 0 ≤ n ∧ n < 256 := by
   simp only [Lit.wf, IntKind.min, IntKind.max, IntKind.signed, IntKind.bits] at h2
   simp at h2
   omega
  refine ⟨UInt8.ofNat n.toNat, ?_, trivial⟩
  rw [h1]
  show LV.sc (.int .u8 n) = LV.sc (.int .u8 ((UInt8.ofNat n.toNat).toNat : Int))
  congr 2
  rw [UInt8.toNat_ofNat']
  omega
theorem Rep.str {P : Program} {t : TypeId} (ht : P.underlying t = some .string) : Rep P t (eEa .str) (fun s : ByteArray => s.size ≤ reachBytes) := Rep.string ht
end Go.Proofs.YtpeaaophmddhnaaGreat.LI
