/- Records and tapes, plain: what may be, what is laid as bytes. No program. -/
import Derived.Test.YtpciggnanlflkaaGreatDoorGa
namespace Go.Proofs.YtpciggnanlflkaaGreatDoor.Ad
set_option linter.unusedVariables false
set_option linter.unusedSimpArgs false
structure Rec where
  tk : Int
  node : Int
  out : Bool
  long : Int
  data : List UInt8
  deriving DecidableEq
structure Tp where
  snap : Int
  recs : List Rec
  deriving DecidableEq
/-- May a record stand behind one of that tick? -/
def mayV (r : Rec) (snap frm : Int) : Bool := decide (frm ≤ r.tk ∧ r.tk ≤ 1099511627776 ∧ 0 ≤ r.node ∧ r.node < 16 ∧ 0 ≤ r.long ∧ r.long ≤ 65575 ∧ (r.data.length : Int) = min r.long snap)
/-- May all, one behind the other? -/
def allV (snap : Int) : Int → List Rec → Bool
  | _, [] => true
  | frm, r :: l => mayV r snap frm && allV snap r.tk l
/-- The tick of the last. -/
def lastV : Int → List Rec → Int
  | frm, [] => frm
  | _, r :: l => lastV r.tk l
def rightV (t : Tp) : Bool := decide (0 ≤ t.snap ∧ t.snap ≤ 65575 ∧ t.recs.length ≤ 4096) && allV t.snap 0 t.recs
theorem lastV_snoc (r : Rec) : ∀ (l : List Rec) (f : Int), lastV f (l ++ [r]) = r.tk
  | [], f => rfl
  | x :: l, f => lastV_snoc r l x.tk
theorem allV_app (snap : Int) (m : List Rec) : ∀ (l : List Rec) (f : Int), allV snap f (l ++ m) = (allV snap f l && allV snap (lastV f l) m)
  | [], f => by simp [allV, lastV]
  | x :: l, f => by rw [List.cons_append, allV, allV, allV_app snap m l x.tk, lastV, Bool.and_assoc]
theorem allV_snoc (snap f : Int) (l : List Rec) (r : Rec) : allV snap f (l ++ [r]) = (allV snap f l && mayV r snap (lastV f l)) := by
  rw [allV_app]; simp [allV]
/-- The k-th byte of a number, from the lowest. -/
def byteV (v : Int) (k : Nat) : UInt8 := UInt8.ofNat ((v / 2 ^ (8 * k)) % 256).toNat
/-- A number as n bytes, the highest first. -/
def numB (v : Int) : Nat → List UInt8
  | 0 => []
  | n + 1 => byteV v n :: numB v n
theorem numB_len (v : Int) : ∀ n, (numB v n).length = n
  | 0 => rfl
  | n + 1 => by simp [numB, numB_len v n]
def outV (b : Bool) : Int := if b = true then 1 else 0
/-- A record's bytes. -/
def recB (r : Rec) : List UInt8 := numB r.tk 8 ++ (numB r.node 1 ++ (numB (outV r.out) 1 ++ (numB r.long 4 ++ r.data)))
def headB (t : Tp) : List UInt8 := [116, 97, 112, 101, 1] ++ (numB t.snap 4 ++ numB t.recs.length 4)
def bytesB (t : Tp) : List UInt8 := headB t ++ t.recs.flatMap recB
/-- What Build answers. -/
def buildV (t : Tp) : List UInt8 × Int := if rightV t = true then (bytesB t, 0) else ([], 1)
theorem recB_len (r : Rec) : (recB r).length = 14 + r.data.length := by unfold recB; simp [numB_len]; omega
theorem headB_len (t : Tp) : (headB t).length = 13 := by unfold headB; simp [numB_len]
theorem flat_snocR (l : List Rec) (r : Rec) : (l ++ [r]).flatMap recB = l.flatMap recB ++ recB r := by simp
theorem may_len {r : Rec} {snap frm : Int} (h : mayV r snap frm = true) : r.data.length ≤ 65575 := by
  have := of_decide_eq_true h; omega
theorem all_len {snap : Int} : ∀ {l : List Rec} {frm : Int}, allV snap frm l = true → ∀ r ∈ l, r.data.length ≤ 65575
  | [], _, _ => fun r hr => by cases hr
  | x :: l, frm, h => fun r hr => by
    rw [allV, Bool.and_eq_true] at h
    rcases List.mem_cons.1 hr with rfl | hr
    · exact may_len h.1
    · exact all_len h.2 r hr
theorem bytes_le : ∀ l : List Rec, (∀ r ∈ l, r.data.length ≤ 65575) → (l.flatMap recB).length ≤ 65589 * l.length
  | [], _ => by simp
  | r :: l, h => by
    have h1 := bytes_le l fun x hx => h x (List.mem_cons_of_mem _ hx)
    have h2 := h r List.mem_cons_self
    simp only [List.flatMap_cons, List.length_append, List.length_cons, recB_len] at *
    omega
end Go.Proofs.YtpciggnanlflkaaGreatDoor.Ad
