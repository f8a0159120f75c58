/-
  Layer 1 (text): text.Name, text.All, text.May as contracts; the chapter's example.
-/
import Derived.Test.YtecokfbldjekiaaTkC
import Derived.Test.YtecokfbldjekiaaTxD
namespace Go.Proofs.Ytecokfbldjekiaa.LI
open Go Go.RowKit
open KV (toL)
open KV.toL (toLs)
set_option maxRecDepth 100000
def nameK (s : ByteArray) : Bool := badAt s == s.size && !(s.toList == (ByteArray.mk (Array.mk [])).toList) && decide ((s.size : Int) ≤ 16)
def p11 : List KV → Option (Ck × KV)
  | [.sc (.string s)] => some (.is (fit s.size), .bool (nameK s))
  | _ => none
theorem c11 (args : List KV) (c : Ck) (v : KV) (h : p11 args = some (c, v)) (hc : c.val = true) : run Try.prog th (.call 11 (toLs args)) = some ⟨.normal, v.toL, default, {}⟩ := by
  unfold p11 at h
  split at h
  · rename_i s
    cases h
    have h := hc
    simp only [val_fit_t] at h
    refine fnK_sound S2_ok (n := 1000) ?_
    have e := k11 s
    simp only [decide_true, fit_t h, condF_true] at e
    rw [e]
    unfold nameK
    cases badAt s == s.size <;> cases s.toList == (ByteArray.mk (Array.mk [])).toList <;> simp [condF]
  · cases h
def allK (l : List ByteArray) : Bool := decide ((l.length : Int) ≤ 200) && badLine l == l.length
def p20 : List KV → Option (Ck × KV)
  | [.lst .str _ l] => some (.ok, .bool (allK l))
  | [.nils] => some (.ok, .st (.bool true))
  | _ => none
def p8 : List KV → Option (Ck × KV)
  | [] => some (.ok, .st (.bool true))
  | _ => none
theorem c8 (args : List KV) (c : Ck) (v : KV) (h : p8 args = some (c, v)) (hc : c.val = true) : run Try.prog th (.call 8 (toLs args)) = some ⟨.normal, v.toL, default, {}⟩ := by
  unfold p8 at h
  split at h <;> cases h
  exact f8
theorem c20' (n : Bool) (l : List ByteArray) : run Try.prog th (.call 20 [(KV.lst .str n l).toL]) = some ⟨.normal, .sc (.bool (allK l)), default, {}⟩ := by
  refine fnK_sound S2_ok (n := 1000) (args := [.lst .str n l]) (v := .bool (allK l)) ?_
  have e := k20 n l
  by_cases h1 : (List.length l : Int) ≤ 200
  · have h2 : (List.length l : Int) < big := by simp only [big]; omega
    simp only [h1, decide_true, fit_t h2, condF_true] at e
    rw [e]
    cases hb : badLine l == l.length
    · have : decide ((badLine l : Int) ≥ 0) = true := by simp
      simp [allK, hb, condF]
    · simp only [allK, h1, hb, decide_true, Bool.and_self, condF_true]
  · simp only [h1, decide_false, condF_false] at e
    rw [e]
    simp only [allK, h1, decide_false, Bool.false_and]
theorem c20 (args : List KV) (c : Ck) (v : KV) (h : p20 args = some (c, v)) (hc : c.val = true) : run Try.prog th (.call 20 (toLs args)) = some ⟨.normal, v.toL, default, {}⟩ := by
  unfold p20 at h
  split at h
  · cases h
    exact c20' _ _
  · cases h
    have := c20' true []
    exact this
  · cases h
noncomputable def S3 (fk : Fk) : Cs := ((((S2 fk).addC 12 p12).addC 11 p11).addC 20 p20).addC 8 p8
instance : FkOK (S3 condF) := ⟨fun _ _ _ => rfl⟩
theorem S3_ok : CsOK Try.prog th (S3 condF) := (((S2_ok.addC c12).addC c11).addC c20).addC c8
theorem i4_ (fk : Fk) (s : ByteArray) (i : Int) (r : Bool) (a : Bool)  : iterK Try.prog th (S3 fk) 1000 4 (some 6) [.sc (.string s), .sc (.bool r), .sc (.bool a), .sc (.int .i64 i)] {} =
    fk (decide (i < (↑s.size : Int)))
      (fk a
        (fk (decide ((0 : Int) ≤ IntKind.i64.wrap (i + (1 : Int))))
          (fk (decide (IntKind.i64.wrap (i + (1 : Int)) ≤ (↑s.size : Int)))
            (fk (decide ((0 : Int) ≤ i))
              (fk (decide (i ≤ (↑(IntKind.i64.wrap (i + (1 : Int))).toNat : Int)))
                (fk (fit (s.extract i.toNat (IntKind.i64.wrap (i + (1 : Int))).toNat).size)
                  (some
                    (Ex.normal,
                      [KV.sc (Value.string s), KV.sc (Value.bool r),
                        KV.sc (Value.bool (nameK (s.extract i.toNat (IntKind.i64.wrap (i + (1 : Int))).toNat))),
                        KV.sc (Value.int IntKind.i64 (IntKind.i64.wrap (i + (1 : Int))))],
                      KSt.mk [] [] []))
                  none)
                none)
              none)
            none)
          none)
        (some
          (Ex.normal,
            [KV.sc (Value.string s), KV.sc (Value.bool r), KV.sc (Value.bool false),
              KV.sc (Value.int IntKind.i64 (IntKind.i64.wrap (i + (1 : Int))))],
            KSt.mk [] [] [])))
      (some
        (Ex.exit (0 : Nat),
          [KV.sc (Value.string s), KV.sc (Value.bool r), KV.sc (Value.bool a), KV.sc (Value.int IntKind.i64 i)],
          KSt.mk [] [] [])) := by kernel_rfl
theorem i4 (s : ByteArray) (i : Int) (r : Bool) (a : Bool)  : iterK Try.prog th (S3 condF) 1000 4 (some 6) [.sc (.string s), .sc (.bool r), .sc (.bool a), .sc (.int .i64 i)] {} =
    condF (decide (i < (↑s.size : Int)))
      (condF a
        (condF (decide ((0 : Int) ≤ IntKind.i64.wrap (i + (1 : Int))))
          (condF (decide (IntKind.i64.wrap (i + (1 : Int)) ≤ (↑s.size : Int)))
            (condF (decide ((0 : Int) ≤ i))
              (condF (decide (i ≤ (↑(IntKind.i64.wrap (i + (1 : Int))).toNat : Int)))
                (condF (fit (s.extract i.toNat (IntKind.i64.wrap (i + (1 : Int))).toNat).size)
                  (some
                    (Ex.normal,
                      [KV.sc (Value.string s), KV.sc (Value.bool r),
                        KV.sc (Value.bool (nameK (s.extract i.toNat (IntKind.i64.wrap (i + (1 : Int))).toNat))),
                        KV.sc (Value.int IntKind.i64 (IntKind.i64.wrap (i + (1 : Int))))],
                      KSt.mk [] [] []))
                  none)
                none)
              none)
            none)
          none)
        (some
          (Ex.normal,
            [KV.sc (Value.string s), KV.sc (Value.bool r), KV.sc (Value.bool false),
              KV.sc (Value.int IntKind.i64 (IntKind.i64.wrap (i + (1 : Int))))],
            KSt.mk [] [] [])))
      (some
        (Ex.exit (0 : Nat),
          [KV.sc (Value.string s), KV.sc (Value.bool r), KV.sc (Value.bool a), KV.sc (Value.int IntKind.i64 i)],
          KSt.mk [] [] [])) := i4_ condF s i r a
end Go.Proofs.Ytecokfbldjekiaa.LI
