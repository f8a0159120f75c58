/-
  Types of data out of the program's types; the library's functions without a body, with letters. No program is named here.
-/
import Derived.Test.YticpcfchhcjjeaaGreatLiU
namespace Go.Proofs.YticpcfchhcjjeaaGreat.LI
open Go Go.RowKit
open KV (toL)
open KV.toL (toLs)

/-! what must hold, in equations that are no computations -/
theorem val_ok : Ck.ok.val = true := by simp [Ck.val]
theorem val_is (b : Bool) : (Ck.is b).val = b := by cases b <;> rfl
theorem val_and (a b : Ck) : (Ck.and a b).val = (a.val && b.val) := by
  have : ∀ x y : Bool, x = a.val → y = b.val → (Ck.and a b).val = (x && y) := by
    intro x y h1 h2
    subst h1 h2
    rfl
  exact this _ _ rfl rfl
theorem val_and_t (a b : Ck) : (Ck.and a b).val = true ↔ a.val = true ∧ b.val = true := by rw [val_and, Bool.and_eq_true]
theorem val_is_t (p : Prop) [Decidable p] : (Ck.is (decide p)).val = true ↔ p := by rw [val_is, decide_eq_true_iff]
/-- A size that is no size too great for sums. -/
def fit (n : Nat) : Bool := Nat.ble n 4611686018427387903
/-- The bound on sizes. -/
abbrev big : Int := 4611686018427387904
theorem fit_iff (n : Nat) : fit n = true ↔ (n : Int) < big := by
  unfold fit big
  rw [Nat.ble_eq]
  omega
theorem fit_t {n : Nat} (h : (n : Int) < big) : fit n = true := (fit_iff n).2 h
theorem val_fit_t (n : Nat) : (Ck.is (fit n)).val = true ↔ (n : Int) < big := by rw [val_is, fit_iff]
def tyP (P : Program) : Nat → TypeId → Option Ty
  | 0, _ => none
  | n + 1, t => match P.underlying t with
    | some .bool => some .bool
    | some .string => some .str
    | some (.int .u8) => some .byte
    | some (.int k) => some (.int k)
    | some (.slice e) => match tyP P n e with
      | some t => some (.list t)
      | none => none
    | some (.array m e) => match tyP P n e with
      | some t => if m ≤ 8 then some ((List.replicate m t).foldr .pair .unit) else none
      | none => none
    | some (.struct fs) => fs.toList.foldr (fun f acc => match tyP P n f.type, acc with
      | some a, some b => some (.pair a b)
      | _, _ => none) (some .unit)
    | _ => none
def indexByteK : List KV → Option (Ck × KV)
  | [.sc (.string s), .sc (.int .u8 c)] => some (.ok, .sc (.int .i64 (Lib.indexByte s.data.toList c.toNat.toUInt8)))
  | [.lst .byte l, .sc (.int .u8 c)] => some (.ok, .sc (.int .i64 (Lib.indexByte l c.toNat.toUInt8)))
  | [.nils, .sc (.int .u8 c)] => some (.ok, .sc (.int .i64 (Lib.indexByte [] c.toNat.toUInt8)))
  | _ => none
def countK : List KV → Option (Ck × KV)
  | [.sc (.string s), .sc (.int .u8 c)] => some (.ok, .sc (.int .i64 (s.data.toList.count c.toNat.toUInt8)))
  | [.lst .byte l, .sc (.int .u8 c)] => some (.ok, .sc (.int .i64 (List.count (α := UInt8) c.toNat.toUInt8 l)))
  | _ => none
theorem bytesL_lst (l : List UInt8) : bytesL (lstL .byte l) = some l := bytes_enc l
theorem indexByteK_ok {args : List KV} {c : Ck} {v : KV} (h : indexByteK args = some (c, v)) : indexByteL (toLs args) = some v.toL ∧ freeK v = true := by
  unfold indexByteK at h
  split at h <;> cases h
  · exact ⟨rfl, rfl⟩
  · refine ⟨?_, rfl⟩
    simp only [toLs, toL, indexByteL]
    exact (congrArg (Option.map _) (bytesL_lst _)).trans rfl
  · exact ⟨rfl, rfl⟩
theorem countK_ok {args : List KV} {c : Ck} {v : KV} (h : countK args = some (c, v)) : countL (toLs args) = some v.toL ∧ freeK v = true := by
  unfold countK at h
  split at h <;> cases h
  · exact ⟨rfl, rfl⟩
  · refine ⟨?_, rfl⟩
    simp only [toLs, toL, countL]
    exact (congrArg (Option.map _) (bytesL_lst _)).trans rfl
/-! ### which data a law's arguments are -/
theorem Rep.byte {P : Program} {t : TypeId} (ht : P.underlying t = some (.int .u8)) : Rep P t (encL .byte) (fun _ : UInt8 => True) where
  get := fun h hw => by
    obtain ⟨n, h1, h2⟩ := (Rep.int (P := P) ht).get h hw
    have h3 : 0 ≤ n ∧ n < 256 := by
      simp only [Lit.wf, IntKind.min, IntKind.max, IntKind.signed, IntKind.bits] at h2
      simp at h2
      omega
    refine ⟨UInt8.ofNat n.toNat, ?_, trivial⟩
    rw [h1]
    show LV.sc (.int .u8 n) = LV.sc (.int .u8 ((UInt8.ofNat n.toNat).toNat : Int))
    congr 2
    rw [UInt8.toNat_ofNat']
    omega
theorem Rep.str {P : Program} {t : TypeId} (ht : P.underlying t = some .string) : Rep P t (encL .str) (fun s : ByteArray => s.size ≤ reachBytes) := Rep.string ht
end Go.Proofs.YticpcfchhcjjeaaGreat.LI
