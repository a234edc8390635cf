/-
  An instance's text, its words, and what is read of them, in plain Lean: no program in sight (layer 12).
-/
import Derived.Test.YtljcpgeggbbmfaaPA
import Derived.Test.YtljcpgeggbbmfaaTexts5
import Derived.Test.YtljcpgeggbbmfaaCanon
namespace Go.Proofs.Ytljcpgeggbbmfaa
set_option linter.unusedVariables false
set_option linter.unusedSimpArgs false
open Go.RowKit
theorem L_cat (a b : ByteArray) : L (a ++ b) = L a ++ L b := by
  show (a ++ b).data.toList = _
  rw [ByteArray.data_append, Array.toList_append]
theorem L_eq {a b : ByteArray} (h : L a = L b) : a = b := ByteArray.ext (Array.ext' h)
/-- a number's text. -/
def nT (n : Int) : ByteArray := ⟨(textV n).toArray⟩
theorem L_nT (n : Int) : L (nT n) = textV n := rfl
theorem textV_len (n : Int) : (textV n).length ≤ 20 := by
  unfold textV digN
  have := digF_len 19 n.natAbs
  split
  · rw [List.length_cons]; omega
  · omega
theorem nT_size (n : Int) : (nT n).size ≤ 20 := textV_len n
def b32 : ByteArray := ⟨#[32]⟩
def satTx (x : SatD) : ByteArray := ((b32 ++ nT x.room) ++ b32) ++ nT x.hold
def custTx (x : CustD) : ByteArray := ((((((b32 ++ nT x.load) ++ b32) ++ nT x.opn) ++ b32) ++ nT x.close) ++ b32) ++ nT x.stay
def foldTx {α : Type} (f : α → ByteArray) (a : ByteArray) (l : List α) : ByteArray := l.foldl (fun s x => s ++ f x) a
def cellTx (v : Int) : ByteArray := b32 ++ nT v
def rowTx (a : ByteArray) (r : List Int) : ByteArray := foldTx cellTx a r
def matTx (a : ByteArray) (ls : List (List Int)) : ByteArray := ls.foldl rowTx a
def headTx (X : InstD) : ByteArray :=
  (((((((((((⟨#[119, 104, 97, 114, 102, 97, 103, 101, 32]⟩ : ByteArray) ++ nT X.fin) ++ ⟨#[32, 116, 114, 117, 99, 107, 115, 32]⟩) ++ nT X.tm) ++ b32) ++ nT X.tr) ++ ⟨#[32, 98, 105, 107, 101, 115, 32]⟩) ++ nT X.bm) ++ b32) ++ nT X.br) ++ ⟨#[32, 115, 97, 116, 101, 108, 108, 105, 116, 101, 115, 32]⟩) ++ nT (X.sats.length : Int)
def tx1 (X : InstD) : ByteArray := foldTx satTx (headTx X) X.sats
def tx2 (X : InstD) : ByteArray := tx1 X ++ ((⟨#[32, 99, 117, 115, 116, 111, 109, 101, 114, 115, 32]⟩ : ByteArray) ++ nT (X.custs.length : Int))
def tx3 (X : InstD) : ByteArray := foldTx custTx (tx2 X) X.custs
def tx4 (X : InstD) : ByteArray := matTx (tx3 X ++ ⟨#[32, 99, 111, 115, 116]⟩) X.cost
def tx5 (X : InstD) : ByteArray := matTx (tx4 X ++ ⟨#[32, 116, 105, 109, 101]⟩) X.time
def textI (X : InstD) : ByteArray := tx5 X ++ ⟨#[32, 101, 110, 100]⟩
theorem L_fold {α : Type} (f : α → ByteArray) (l : List α) : ∀ a, L (foldTx f a l) = L a ++ l.flatMap (fun x => L (f x)) := by
  induction l with
  | nil => intro a; simp [foldTx]
  | cons x l ih =>
    intro a
    show L (foldTx f (a ++ f x) l) = _
    rw [ih, L_cat, List.flatMap_cons, List.append_assoc]
theorem L_mat (ls : List (List Int)) : ∀ a, L (matTx a ls) = L a ++ ls.flatMap (fun r => r.flatMap (fun v => 32 :: textV v)) := by
  induction ls with
  | nil => intro a; simp [matTx]
  | cons r ls ih =>
    intro a
    show L (matTx (rowTx a r) ls) = _
    rw [ih]
    unfold rowTx
    rw [L_fold, List.flatMap_cons, List.append_assoc]
    congr 2
/-- the words of an instance. -/
def wordsI (X : InstD) : List (List UInt8) :=
  L sWharfage :: textV X.fin :: L sTrucks :: textV X.tm :: textV X.tr :: L sBikes :: textV X.bm :: textV X.br :: L sSats :: textV (X.sats.length : Int) ::
    (X.sats.flatMap (fun x => [textV x.room, textV x.hold]) ++ (L sCusts :: textV (X.custs.length : Int) :: (X.custs.flatMap (fun x => [textV x.load, textV x.opn, textV x.close, textV x.stay]) ++
      (L sCost :: (X.cost.flatMap (fun r => r.map textV) ++ (L sTime :: (X.time.flatMap (fun r => r.map textV) ++ [L sEnd])))))))
/-- words, each behind a blank. -/
def blank (ws : List (List UInt8)) : List UInt8 := ws.flatMap (fun w => 32 :: w)
theorem blank_app (a b : List (List UInt8)) : blank (a ++ b) = blank a ++ blank b := by unfold blank; rw [List.flatMap_append]
theorem blank_cons (w : List UInt8) (b : List (List UInt8)) : blank (w :: b) = 32 :: (w ++ blank b) := by unfold blank; rw [List.flatMap_cons]; rfl
theorem blank_flat {α : Type} (f : α → List (List UInt8)) (l : List α) : blank (l.flatMap f) = l.flatMap (fun x => blank (f x)) := by
  induction l with
  | nil => rfl
  | cons x l ih => rw [List.flatMap_cons, blank_app, ih, List.flatMap_cons]
theorem L_textI (X : InstD) : 32 :: L (textI X) = blank (wordsI X) := by
  have e1 : blank (X.sats.flatMap (fun x => [textV x.room, textV x.hold])) = X.sats.flatMap (fun x => L (satTx x)) := by
    rw [blank_flat]
    congr 1
    funext x
    unfold satTx
    rw [L_cat, L_cat, L_cat, L_nT, L_nT, blank_cons, blank_cons]
    show _ = (([32] ++ textV x.room) ++ [32]) ++ textV x.hold
    simp [blank]
  have e2 : blank (X.custs.flatMap (fun x => [textV x.load, textV x.opn, textV x.close, textV x.stay])) = X.custs.flatMap (fun x => L (custTx x)) := by
    rw [blank_flat]
    congr 1
    funext x
    unfold custTx
    rw [L_cat, L_cat, L_cat, L_cat, L_cat, L_cat, L_cat, L_nT, L_nT, L_nT, L_nT, blank_cons, blank_cons, blank_cons, blank_cons]
    show _ = (((((([32] ++ textV x.load) ++ [32]) ++ textV x.opn) ++ [32]) ++ textV x.close) ++ [32]) ++ textV x.stay
    simp [blank]
  have e3 : ∀ ls : List (List Int), blank (ls.flatMap (fun r => r.map textV)) = ls.flatMap (fun r => r.flatMap (fun v => 32 :: textV v)) := fun ls => by
    rw [blank_flat]
    congr 1
    funext r
    unfold blank
    rw [List.flatMap_map]
  unfold textI tx5 tx4 tx3 tx2 tx1 headTx
  rw [L_cat, L_mat, L_cat, L_mat, L_cat, L_fold, L_cat, L_fold]
  simp only [L_cat, L_nT]
  unfold wordsI
  simp only [blank_cons, blank_app, e1, e2, e3]
  have s0 : (32 : UInt8) :: L (⟨#[119, 104, 97, 114, 102, 97, 103, 101, 32]⟩ : ByteArray) = 32 :: (L sWharfage ++ [32]) := rfl
  have s1 : L (⟨#[32, 116, 114, 117, 99, 107, 115, 32]⟩ : ByteArray) = 32 :: (L sTrucks ++ [32]) := rfl
  have s2 : L (⟨#[32, 98, 105, 107, 101, 115, 32]⟩ : ByteArray) = 32 :: (L sBikes ++ [32]) := rfl
  have s3 : L (⟨#[32, 115, 97, 116, 101, 108, 108, 105, 116, 101, 115, 32]⟩ : ByteArray) = 32 :: (L sSats ++ [32]) := rfl
  have s4 : L (⟨#[32, 99, 117, 115, 116, 111, 109, 101, 114, 115, 32]⟩ : ByteArray) = 32 :: (L sCusts ++ [32]) := rfl
  have s5 : L (⟨#[32, 99, 111, 115, 116]⟩ : ByteArray) = 32 :: L sCost := rfl
  have s6 : L (⟨#[32, 116, 105, 109, 101]⟩ : ByteArray) = 32 :: L sTime := rfl
  have s7 : L (⟨#[32, 101, 110, 100]⟩ : ByteArray) = 32 :: L sEnd := rfl
  have s8 : L b32 = [32] := rfl
  have s00 : L (⟨#[119, 104, 97, 114, 102, 97, 103, 101, 32]⟩ : ByteArray) = L sWharfage ++ [32] := rfl
  rw [s1, s2, s3, s4, s5, s6, s7, s8, s00]
  simp [List.append_assoc, blank]
end Go.Proofs.Ytljcpgeggbbmfaa
