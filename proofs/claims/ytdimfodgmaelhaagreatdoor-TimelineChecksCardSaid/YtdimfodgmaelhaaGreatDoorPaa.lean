/- An evaluator for the kernel over values whose addresses are names, and that what it tells of a call is so, over any program. -/
import GoSem.Step
import Derived.Below
import Derived.Calls
import Derived.Laws.IdiomCopy
import Derived.RangeFuncRecord
import Derived.Laws.Entries
import Derived.Laws.Sem
set_option linter.all false
section
namespace Av
open Go
/-! ### names, and trees over them -/
inductive Pos where
 | h | o (p : Pos) | i (p : Pos)
 deriving DecidableEq, Repr, Inhabited
def Pos.succ : Pos → Pos
 | .h => .o .h
 | .o p => .i p
 | .i p => .o p.succ
def Pos.ofNat : Nat → Pos
 | 0 => .h
 | n + 1 => (Pos.ofNat n).succ
noncomputable def Pos.beq (p q : Pos) : Bool :=
 Pos.rec (motive := fun _ => Pos → Bool)
  (fun q => Pos.rec (motive := fun _ => Bool) true (fun _ _ => false) (fun _ _ => false) q)
  (fun _ ih q => Pos.rec (motive := fun _ => Bool) false (fun q' _ => ih q') (fun _ _ => false) q)
  (fun _ ih q => Pos.rec (motive := fun _ => Bool) false (fun _ _ => false) (fun q' _ => ih q') q) p q
inductive PT (α : Type) where
 | e | n (l : PT α) (v : Option α) (r : PT α)
 deriving Inhabited
noncomputable def PT.get {α : Type} (p : Pos) (t : PT α) : Option α :=
 PT.rec (motive := fun _ => Pos → Option α) (fun _ => none)
  (fun _ v _ ihl ihr p => Pos.rec (motive := fun _ => Option α) v (fun q _ => ihl q) (fun q _ => ihr q) p) t p
noncomputable def PT.put {α : Type} (p : Pos) (x : Option α) (t : PT α) : PT α :=
 Pos.rec (motive := fun _ => PT α → PT α)
  (fun t => PT.rec (motive := fun _ => PT α) (.n .e x .e) (fun l _ r _ _ => .n l x r) t)
  (fun _ ih t => PT.rec (motive := fun _ => PT α) (.n (ih .e) none .e) (fun l v r _ _ => .n (ih l) v r) t)
  (fun _ ih t => PT.rec (motive := fun _ => PT α) (.n .e none (ih .e)) (fun l v r _ _ => .n l v (ih r)) t) p t
/-! ### values -/
inductive AV where
 | int (n : Int) | ik (k : IntKind) (n : Int) | bool (b : Bool) | str (l : List UInt8)
 | ptr (b : Pos) (o : Nat) | nilp
 | sl (b : Pos) (o len cap : Nat) | su (b : Pos) (o len lost : Nat) | nils
 | mp (b : Pos) | nilm
 | fn (f : Nat) (a c : List AV) | yld (l : Pos) | nilf
 | ifc (t : Nat) (v : AV) | nili
 | agg (l : List AV) | tup (l : List AV)
 deriving Inhabited
def undf : AV := .tup []
section
variable {α : Type}
noncomputable def AV.unInt (v : AV) (k : Int → α) (e : α) : α :=
 AV.rec (motive_1 := fun _ => (Int → α) → α → α) (motive_2 := fun _ => Unit)
  (fun n k _ => k n) (fun _ _ _ e => e) (fun _ _ e => e) (fun _ _ e => e) (fun _ _ _ e => e) (fun _ e => e)
  (fun _ _ _ _ _ e => e) (fun _ _ _ _ _ e => e) (fun _ e => e) (fun _ _ e => e) (fun _ e => e)
  (fun _ _ _ _ _ _ e => e) (fun _ _ e => e) (fun _ e => e) (fun _ _ _ _ e => e) (fun _ e => e) (fun _ _ _ e => e) (fun _ _ _ e => e)
  () (fun _ _ _ _ => ()) v k e
noncomputable def AV.unIk (v : AV) (k : IntKind → Int → α) (e : α) : α :=
 AV.rec (motive_1 := fun _ => (IntKind → Int → α) → α → α) (motive_2 := fun _ => Unit)
  (fun _ _ e => e) (fun i n k _ => k i n) (fun _ _ e => e) (fun _ _ e => e) (fun _ _ _ e => e) (fun _ e => e)
  (fun _ _ _ _ _ e => e) (fun _ _ _ _ _ e => e) (fun _ e => e) (fun _ _ e => e) (fun _ e => e)
  (fun _ _ _ _ _ _ e => e) (fun _ _ e => e) (fun _ e => e) (fun _ _ _ _ e => e) (fun _ e => e) (fun _ _ _ e => e) (fun _ _ _ e => e)
  () (fun _ _ _ _ => ()) v k e
noncomputable def AV.unBool (v : AV) (k : Bool → α) (e : α) : α :=
 AV.rec (motive_1 := fun _ => (Bool → α) → α → α) (motive_2 := fun _ => Unit)
  (fun _ _ e => e) (fun _ _ _ e => e) (fun b k _ => k b) (fun _ _ e => e) (fun _ _ _ e => e) (fun _ e => e)
  (fun _ _ _ _ _ e => e) (fun _ _ _ _ _ e => e) (fun _ e => e) (fun _ _ e => e) (fun _ e => e)
  (fun _ _ _ _ _ _ e => e) (fun _ _ e => e) (fun _ e => e) (fun _ _ _ _ e => e) (fun _ e => e) (fun _ _ _ e => e) (fun _ _ _ e => e)
  () (fun _ _ _ _ => ()) v k e
noncomputable def AV.unStr (v : AV) (k : List UInt8 → α) (e : α) : α :=
 AV.rec (motive_1 := fun _ => (List UInt8 → α) → α → α) (motive_2 := fun _ => Unit)
  (fun _ _ e => e) (fun _ _ _ e => e) (fun _ _ e => e) (fun l k _ => k l) (fun _ _ _ e => e) (fun _ e => e)
  (fun _ _ _ _ _ e => e) (fun _ _ _ _ _ e => e) (fun _ e => e) (fun _ _ e => e) (fun _ e => e)
  (fun _ _ _ _ _ _ e => e) (fun _ _ e => e) (fun _ e => e) (fun _ _ _ _ e => e) (fun _ e => e) (fun _ _ _ e => e) (fun _ _ _ e => e)
  () (fun _ _ _ _ => ()) v k e
noncomputable def AV.unPtr (v : AV) (k : Pos → Nat → α) (e : α) : α :=
 AV.rec (motive_1 := fun _ => (Pos → Nat → α) → α → α) (motive_2 := fun _ => Unit)
  (fun _ _ e => e) (fun _ _ _ e => e) (fun _ _ e => e) (fun _ _ e => e) (fun b o k _ => k b o) (fun _ e => e)
  (fun _ _ _ _ _ e => e) (fun _ _ _ _ _ e => e) (fun _ e => e) (fun _ _ e => e) (fun _ e => e)
  (fun _ _ _ _ _ _ e => e) (fun _ _ e => e) (fun _ e => e) (fun _ _ _ _ e => e) (fun _ e => e) (fun _ _ _ e => e) (fun _ _ _ e => e)
  () (fun _ _ _ _ => ()) v k e
noncomputable def AV.unSl (v : AV) (kn : α) (ks ku : Pos → Nat → Nat → Nat → α) (e : α) : α :=
 AV.rec (motive_1 := fun _ => α → (Pos → Nat → Nat → Nat → α) → (Pos → Nat → Nat → Nat → α) → α → α) (motive_2 := fun _ => Unit)
  (fun _ _ _ _ e => e) (fun _ _ _ _ _ e => e) (fun _ _ _ _ e => e) (fun _ _ _ _ e => e) (fun _ _ _ _ _ e => e) (fun _ _ _ e => e)
  (fun b o l c _ k _ _ => k b o l c) (fun b o l c _ _ k _ => k b o l c) (fun k _ _ _ => k) (fun _ _ _ _ e => e) (fun _ _ _ e => e)
  (fun _ _ _ _ _ _ _ _ e => e) (fun _ _ _ _ e => e) (fun _ _ _ e => e) (fun _ _ _ _ _ _ e => e) (fun _ _ _ e => e) (fun _ _ _ _ _ e => e) (fun _ _ _ _ _ e => e)
  () (fun _ _ _ _ => ()) v kn ks ku e
noncomputable def AV.unMap (v : AV) (kn : α) (k : Pos → α) (e : α) : α :=
 AV.rec (motive_1 := fun _ => α → (Pos → α) → α → α) (motive_2 := fun _ => Unit)
  (fun _ _ _ e => e) (fun _ _ _ _ e => e) (fun _ _ _ e => e) (fun _ _ _ e => e) (fun _ _ _ _ e => e) (fun _ _ e => e)
  (fun _ _ _ _ _ _ e => e) (fun _ _ _ _ _ _ e => e) (fun _ _ e => e) (fun b _ k _ => k b) (fun k _ _ => k)
  (fun _ _ _ _ _ _ _ e => e) (fun _ _ _ e => e) (fun _ _ e => e) (fun _ _ _ _ _ e => e) (fun _ _ e => e) (fun _ _ _ _ e => e) (fun _ _ _ _ e => e)
  () (fun _ _ _ _ => ()) v kn k e
noncomputable def AV.unFn (v : AV) (k : Nat → List AV → List AV → α) (y : Pos → α) (e : α) : α :=
 AV.rec (motive_1 := fun _ => (Nat → List AV → List AV → α) → (Pos → α) → α → α) (motive_2 := fun _ => Unit)
  (fun _ _ _ e => e) (fun _ _ _ _ e => e) (fun _ _ _ e => e) (fun _ _ _ e => e) (fun _ _ _ _ e => e) (fun _ _ e => e)
  (fun _ _ _ _ _ _ e => e) (fun _ _ _ _ _ _ e => e) (fun _ _ e => e) (fun _ _ _ e => e) (fun _ _ e => e)
  (fun f a c _ _ k _ _ => k f a c) (fun l _ y _ => y l) (fun _ _ e => e) (fun _ _ _ _ _ e => e) (fun _ _ e => e) (fun _ _ _ _ e => e) (fun _ _ _ _ e => e)
  () (fun _ _ _ _ => ()) v k y e
noncomputable def AV.unIfc (v : AV) (k : Nat → AV → α) (e : α) : α :=
 AV.rec (motive_1 := fun _ => (Nat → AV → α) → α → α) (motive_2 := fun _ => Unit)
  (fun _ _ e => e) (fun _ _ _ e => e) (fun _ _ e => e) (fun _ _ e => e) (fun _ _ _ e => e) (fun _ e => e)
  (fun _ _ _ _ _ e => e) (fun _ _ _ _ _ e => e) (fun _ e => e) (fun _ _ e => e) (fun _ e => e)
  (fun _ _ _ _ _ _ e => e) (fun _ _ e => e) (fun _ e => e) (fun t v _ k _ => k t v) (fun _ e => e) (fun _ _ _ e => e) (fun _ _ _ e => e)
  () (fun _ _ _ _ => ()) v k e
noncomputable def AV.unAgg (v : AV) (k : List AV → α) (e : α) : α :=
 AV.rec (motive_1 := fun _ => (List AV → α) → α → α) (motive_2 := fun _ => Unit)
  (fun _ _ e => e) (fun _ _ _ e => e) (fun _ _ e => e) (fun _ _ e => e) (fun _ _ _ e => e) (fun _ e => e)
  (fun _ _ _ _ _ e => e) (fun _ _ _ _ _ e => e) (fun _ e => e) (fun _ _ e => e) (fun _ e => e)
  (fun _ _ _ _ _ _ e => e) (fun _ _ e => e) (fun _ e => e) (fun _ _ _ _ e => e) (fun _ e => e) (fun l _ k _ => k l) (fun _ _ _ e => e)
  () (fun _ _ _ _ => ()) v k e
noncomputable def AV.unTup (v : AV) (k : List AV → α) (e : α) : α :=
 AV.rec (motive_1 := fun _ => (List AV → α) → α → α) (motive_2 := fun _ => Unit)
  (fun _ _ e => e) (fun _ _ _ e => e) (fun _ _ e => e) (fun _ _ e => e) (fun _ _ _ e => e) (fun _ e => e)
  (fun _ _ _ _ _ e => e) (fun _ _ _ _ _ e => e) (fun _ e => e) (fun _ _ e => e) (fun _ e => e)
  (fun _ _ _ _ _ _ e => e) (fun _ _ e => e) (fun _ e => e) (fun _ _ _ _ e => e) (fun _ e => e) (fun _ _ _ e => e) (fun l _ k _ => k l)
  () (fun _ _ _ _ => ()) v k e
noncomputable def AV.unNil (v : AV) (k : Nat → Bool → α) (e : α) : α :=
 AV.rec (motive_1 := fun _ => (Nat → Bool → α) → α → α) (motive_2 := fun _ => Unit)
  (fun _ _ e => e) (fun _ _ _ e => e) (fun _ _ e => e) (fun _ _ e => e) (fun _ _ k _ => k 0 false) (fun k _ => k 0 true)
  (fun _ _ _ _ k _ => k 1 false) (fun _ _ _ _ k _ => k 1 false) (fun k _ => k 1 true) (fun _ k _ => k 2 false) (fun k _ => k 2 true)
  (fun _ _ _ _ _ k _ => k 3 false) (fun _ k _ => k 3 false) (fun k _ => k 3 true) (fun _ _ _ k _ => k 4 false) (fun k _ => k 4 true) (fun _ _ _ e => e) (fun _ _ _ e => e)
  () (fun _ _ _ _ => ()) v k e
end
noncomputable def cellsOf (v : AV) : List AV :=
 AV.rec (motive_1 := fun _ => List AV) (motive_2 := fun _ => Unit)
  (fun n => [.int n]) (fun i n => [.ik i n]) (fun b => [.bool b]) (fun l => [.str l]) (fun b o => [.ptr b o]) [.nilp]
  (fun b o l c => [.sl b o l c]) (fun b o l c => [.su b o l c]) [.nils] (fun b => [.mp b]) [.nilm]
  (fun f a c _ _ => [.fn f a c]) (fun l => [.yld l]) [.nilf] (fun t v _ => [.ifc t v]) [.nili] (fun l _ => l) (fun _ _ => [])
  () (fun _ _ _ _ => ()) v
/-! ### lists -/
noncomputable def lget (l : List AV) (n : Nat) : AV :=
 Nat.rec (motive := fun _ => List AV → AV) (fun l => List.rec (motive := fun _ => AV) undf (fun a _ _ => a) l)
  (fun _ ih l => List.rec (motive := fun _ => AV) undf (fun _ r _ => ih r) l) n l
noncomputable def ldrop (n : Nat) (l : List AV) : List AV :=
 Nat.rec (motive := fun _ => List AV → List AV) (fun l => l) (fun _ ih l => List.rec (motive := fun _ => List AV) [] (fun _ r _ => ih r) l) n l
section
variable {α : Type}
noncomputable def lnth (l : List AV) (n : Nat) (k : AV → α) (e : α) : α :=
 Nat.rec (motive := fun _ => List AV → α) (fun l => List.rec (motive := fun _ => α) e (fun a _ _ => k a) l)
  (fun _ ih l => List.rec (motive := fun _ => α) e (fun _ r _ => ih r) l) n l
noncomputable def ltake (n : Nat) (l : List AV) (k : List AV → α) (e : α) : α :=
 Nat.rec (motive := fun _ => List AV → (List AV → α) → α) (fun _ k => k [])
  (fun _ ih l k => List.rec (motive := fun _ => α) e (fun a r _ => ih r (fun x => k (a :: x))) l) n l k
noncomputable def lover (vs l : List AV) (k : List AV → α) (e : α) : α :=
 List.rec (motive := fun _ => List AV → (List AV → α) → α) (fun l k => k l)
  (fun v _ ih l k => List.rec (motive := fun _ => α) e (fun _ r _ => ih r (fun x => k (v :: x))) l) vs l k
noncomputable def lset (o : Nat) (vs l : List AV) (k : List AV → α) (e : α) : α :=
 Nat.rec (motive := fun _ => List AV → (List AV → α) → α) (fun l k => lover vs l k e)
  (fun _ ih l k => List.rec (motive := fun _ => α) e (fun a r _ => ih r (fun x => k (a :: x))) l) o l k
end
noncomputable def llen (l : List AV) : Nat := List.rec (motive := fun _ => Nat) 0 (fun _ _ ih => Nat.succ ih) l
noncomputable def lrep (z : List AV) (n : Nat) : List AV := Nat.rec (motive := fun _ => List AV) [] (fun _ ih => z ++ ih) n
/-! ### integers of Go's int -/
noncomputable def ile (a b : Int) : Bool :=
 Int.rec (motive := fun _ => Bool) (fun a => Int.rec (motive := fun _ => Bool) (fun b => Nat.ble a b) (fun _ => false) b)
  (fun a => Int.rec (motive := fun _ => Bool) (fun _ => true) (fun b => Nat.ble b a) b) a
noncomputable def ieq (a b : Int) : Bool :=
 Int.rec (motive := fun _ => Bool) (fun a => Int.rec (motive := fun _ => Bool) (fun b => Nat.beq a b) (fun _ => false) b)
  (fun a => Int.rec (motive := fun _ => Bool) (fun _ => false) (fun b => Nat.beq a b) b) a
noncomputable def iadd (a b : Int) : Int :=
 Int.rec (motive := fun _ => Int) (fun a' => Int.rec (motive := fun _ => Int) (fun b' => .ofNat (Nat.add a' b')) (fun _ => a + b) b) (fun _ => a + b) a
noncomputable def inI64 (n : Int) : Bool := Int.rec (motive := fun _ => Bool) (fun a => Nat.ble a 9223372036854775807) (fun a => Nat.ble a 9223372036854775807) n
noncomputable def bnot (b : Bool) : Bool := Bool.rec (motive := fun _ => Bool) true false b
noncomputable def band (a b : Bool) : Bool := Bool.rec (motive := fun _ => Bool) false b a
def maxNeed : Nat := 1048576
def knd : IntKind → Nat
 | .i8 => 0 | .i16 => 1 | .i32 => 2 | .i64 => 3 | .u8 => 4 | .u16 => 5 | .u32 => 6 | .u64 => 7
/-! ### the heap -/
structure ME where
 key : AV
 val : AV
 born : Nat
 deriving Inhabited
inductive AObj where
 | cells (l : List AV) (ty : Nat) (root : Pos) (ab g birth : Nat)
 | map (es : List ME) (clock birth : Nat)
 | loop (st : LoopState) (pend : Option Nat) (code : Nat) (t : PT AV) (blk : Pos) (birth : Nat)
 | dblk (birth : Nat)
 | iter (m : Option Pos) (since stepped birth : Nat)
 deriving Inhabited
structure AH where
 bl : PT AObj
 nx : Pos
 cnt : Nat
 fam : PT (List Pos)
 deriving Inhabited
inductive R (α : Type) where
 | ok (a : α) | er (e : List Nat)
 deriving Inhabited
inductive ADf where
 | mark (b : Pos) | clo (f : AV) (a : List AV) | rnd (l : Pos)
 deriving Inhabited
inductive Ex where
 | nrm | ex (id : Nat) | ret | pan (v : AV)
 deriving Inhabited
inductive Out where
 | mk (e : Ex) (t : PT AV) (d : List ADf) (h : AH)
 deriving Inhabited
inductive CO where
 | ret (v : AV) (h : AH) | pan (v : AV) (h : AH)
 deriving Inhabited
structure Hd where
 call : Nat → Nat → List AV → AH → R CO
 round : Nat → Pos → List AV → AH → R CO
inductive Log where
 | nil | cons (i : Nat) (st : Bool) (b : Pos) (l : Log)
 deriving Inhabited
structure Env where
 hd : Hd
 lim : Nat
 lg : Log
 D : List ADf
section
variable {α : Type}
noncomputable def AH.cells (h : AH) (b : Pos) (k : List AV → Nat → Pos → Nat → Nat → Nat → α) (e : α) : α :=
 Option.rec (motive := fun _ => α) e (fun o => AObj.rec (motive := fun _ => α) k (fun _ _ _ => e) (fun _ _ _ _ _ _ => e) (fun _ => e) (fun _ _ _ _ => e) o) (PT.get b h.bl)
noncomputable def AH.mapOf (h : AH) (b : Pos) (k : List ME → Nat → Nat → α) (e : α) : α :=
 Option.rec (motive := fun _ => α) e (fun o => AObj.rec (motive := fun _ => α) (fun _ _ _ _ _ _ => e) k (fun _ _ _ _ _ _ => e) (fun _ => e) (fun _ _ _ _ => e) o) (PT.get b h.bl)
noncomputable def AH.loopOf (h : AH) (b : Pos) (k : LoopState → Option Nat → Nat → PT AV → Pos → Nat → α) (e : α) : α :=
 Option.rec (motive := fun _ => α) e (fun o => AObj.rec (motive := fun _ => α) (fun _ _ _ _ _ _ => e) (fun _ _ _ => e) k (fun _ => e) (fun _ _ _ _ => e) o) (PT.get b h.bl)
noncomputable def AH.iterOf (h : AH) (b : Pos) (k : Option Pos → Nat → Nat → Nat → α) (e : α) : α :=
 Option.rec (motive := fun _ => α) e (fun o => AObj.rec (motive := fun _ => α) (fun _ _ _ _ _ _ => e) (fun _ _ _ => e) (fun _ _ _ _ _ _ => e) (fun _ => e) k o) (PT.get b h.bl)
noncomputable def AH.dblkOf (h : AH) (b : Pos) (k : Nat → α) (e : α) : α :=
 Option.rec (motive := fun _ => α) e (fun o => AObj.rec (motive := fun _ => α) (fun _ _ _ _ _ _ => e) (fun _ _ _ => e) (fun _ _ _ _ _ _ => e) k (fun _ _ _ _ => e) o) (PT.get b h.bl)
noncomputable def AH.with' (h : AH) (k : PT AObj → Pos → Nat → PT (List Pos) → α) : α := AH.rec (motive := fun _ => α) k h
end
noncomputable def AH.fresh (h : AH) (o : AObj) : AH := h.with' fun bl nx cnt fam => ⟨PT.put nx (some o) bl, nx.succ, Nat.succ cnt, fam⟩
noncomputable def AH.setB (h : AH) (b : Pos) (o : Option AObj) : AH := h.with' fun bl nx cnt fam => ⟨PT.put b o bl, nx, cnt, fam⟩
noncomputable def newCells (h : AH) (l : List AV) (ty g : Nat) : AH := h.with' fun bl nx cnt fam => ⟨PT.put nx (some (.cells l ty nx 0 g cnt)) bl, nx.succ, Nat.succ cnt, fam⟩
noncomputable def killIn (b : Pos) (p q : Nat) (ids : List Pos) (t : PT AObj) : PT AObj :=
 List.rec (motive := fun _ => PT AObj → PT AObj) (fun t => t)
  (fun x _ ih t => Bool.rec (motive := fun _ => PT AObj)
    (Option.rec (motive := fun _ => PT AObj) (ih t) (fun o => AObj.rec (motive := fun _ => PT AObj)
      (fun l _ _ ab _ _ => Bool.rec (motive := fun _ => PT AObj) (ih t) (ih (PT.put x none t)) (band (Nat.ble (Nat.succ ab) q) (Nat.ble (Nat.succ p) (Nat.add ab (llen l)))))
      (fun _ _ _ => ih t) (fun _ _ _ _ _ _ => ih t) (fun _ => ih t) (fun _ _ _ _ => ih t) o) (PT.get x t))
    (ih t) (x.beq b)) ids t
noncomputable def AH.kill (h : AH) (b root : Pos) (p q : Nat) : AH :=
 Option.rec (motive := fun _ => AH) h (fun ids => h.with' fun bl nx cnt fam => ⟨killIn b p q ids bl, nx, cnt, fam⟩) (PT.get root h.fam)
section
variable {α : Type}
noncomputable def AH.write (h : AH) (lim : Nat) (b : Pos) (o : Nat) (vs : List AV) (k : AH → R α) : R α :=
 h.cells b (fun l ty root ab g birth =>
  Bool.rec (motive := fun _ => R α) (.er [12]) (lset o vs l (fun l' => k ((h.kill b root (Nat.add ab o) (Nat.add (Nat.add ab o) (llen vs))).setB b (some (.cells l' ty root ab g birth)))) (.er [11])) (Nat.ble lim birth)) (.er [13])
noncomputable def AH.read (h : AH) (b : Pos) (o n : Nat) (k : List AV → R α) : R α :=
 h.cells b (fun l _ _ _ _ _ => ltake n (ldrop o l) k (.er [14])) (.er [15])
noncomputable def AH.read1 (h : AH) (b : Pos) (o : Nat) (k : AV → R α) : R α :=
 h.cells b (fun l _ _ _ _ _ => lnth l o k (.er [16])) (.er [17])
end
/-! ### operands -/
inductive AO where
 | l (i : Nat) | t (p : Pos) | c (v : AV)
 deriving Inhabited
noncomputable def AO.ev (L : List AV) (T : PT AV) (x : AO) : AV :=
 AO.rec (motive := fun _ => AV) (fun i => lget L i) (fun p => Option.rec (motive := fun _ => AV) undf (fun v => v) (PT.get p T)) (fun v => v) x
noncomputable def evs (L : List AV) (T : PT AV) (xs : List AO) : List AV := List.rec (motive := fun _ => List AV) [] (fun x _ ih => x.ev L T :: ih) xs
noncomputable def evo (L : List AV) (T : PT AV) (x : Option AO) : Option AV := Option.rec (motive := fun _ => Option AV) none (fun x => some (x.ev L T)) x
abbrev VOp := List AV → PT AV → AH → (AV → R Out) → R Out
abbrev HOp := Nat → List AV → PT AV → AH → (AV → AH → R Out) → R Out
abbrev K := Env → List AV → PT AV → AH → R Out
abbrev C := Hd → Nat → PT AV → List ADf → AH → R Out
/-! ### operations that look at no memory, or only look -/
noncomputable def mkInt (n : Int) (k : AV → R Out) : R Out := Bool.rec (motive := fun _ => R Out) (.er [1]) (k (.int n)) (inI64 n)
noncomputable def oMv (x : AO) : VOp := fun L T _ k => k (x.ev L T)
noncomputable def oPick (c a b : AO) : VOp := fun L T _ k => (c.ev L T).unBool (fun t => Bool.rec (motive := fun _ => R Out) (k (b.ev L T)) (k (a.ev L T)) t) (.er [31])
noncomputable def fillP (L : List AV) (T : PT AV) (ps : List (Nat × Nat × AO)) (c : List AV) (k : List AV → R Out) : R Out :=
 List.rec (motive := fun _ => List AV → R Out) (fun c => k c)
  (fun p _ ih c => Prod.rec (motive := fun _ => R Out) (fun off q => Prod.rec (motive := fun _ => R Out) (fun n x =>
    Bool.rec (motive := fun _ => R Out) (.er [19]) (lset off (cellsOf (x.ev L T)) c ih (.er [18])) (Nat.beq (llen (cellsOf (x.ev L T))) n)) q) p) ps c
noncomputable def oBuild (z : List AV) (ps : List (Nat × Nat × AO)) : VOp := fun L T _ k => fillP L T ps z (fun c => k (.agg c))
noncomputable def oLoad1 (x : AO) : VOp := fun L T H k => (x.ev L T).unPtr (fun b o => H.read1 b o k) (.er [32])
noncomputable def oLoadN (n : Nat) (x : AO) : VOp := fun L T H k => (x.ev L T).unPtr (fun b o => H.read b o n (fun v => k (.agg v))) (.er [33])
noncomputable def oNil (x : AO) : VOp := fun L T _ k => (x.ev L T).unPtr (fun b o => k (.ptr b o)) ((x.ev L T).unFn (fun f a c => k (.fn f a c)) (fun _ => .er [36]) (.er [36]))
section
variable (f : Int → Int → (AV → R Out) → R Out) (g : Int → Int → Bool)
noncomputable def oInt2 (x y : AO) : VOp := fun L T _ k => (x.ev L T).unInt (fun a => (y.ev L T).unInt (fun b => f a b k) (.er [7])) (.er [7])
noncomputable def oCmp (x y : AO) : VOp := fun L T _ k =>
 (x.ev L T).unInt (fun a => (y.ev L T).unInt (fun b => k (.bool (g a b))) (.er [7]))
   ((x.ev L T).unIk (fun i a => (y.ev L T).unIk (fun j b => Bool.rec (motive := fun _ => R Out) (.er [6]) (k (.bool (g a b))) (Nat.beq (knd i) (knd j))) (.er [6])) (.er [7]))
end
noncomputable def iSub : Int → Int → (AV → R Out) → R Out := fun a b k => mkInt (a - b) k
noncomputable def iMul : Int → Int → (AV → R Out) → R Out := fun a b k => mkInt (a * b) k
noncomputable def iQuo : Int → Int → (AV → R Out) → R Out := fun a b k => Bool.rec (motive := fun _ => R Out) (mkInt (a.tdiv b) k) (.er [2]) (ieq b 0)
noncomputable def iRem : Int → Int → (AV → R Out) → R Out := fun a b k => Bool.rec (motive := fun _ => R Out) (k (.int (a.tmod b))) (.er [2]) (ieq b 0)
noncomputable def cLss : Int → Int → Bool := fun a b => bnot (ile b a)
noncomputable def cLeq : Int → Int → Bool := fun a b => ile a b
noncomputable def cGtr : Int → Int → Bool := fun a b => bnot (ile a b)
noncomputable def cGeq : Int → Int → Bool := fun a b => ile b a
noncomputable def cat (x y : AO) : VOp := fun L T _ k => (x.ev L T).unStr (fun a => (y.ev L T).unStr (fun b => Bool.rec (motive := fun _ => R Out) (.er [5]) (k (.str (a ++ b))) (Nat.ble (Nat.add a.length b.length) maxNeed)) (.er [5])) (.er [5])
noncomputable def oAdd (x y : AO) : VOp := fun L T H k => (x.ev L T).unInt (fun a => (y.ev L T).unInt (fun b => mkInt (iadd a b) k) (.er [7])) (cat x y L T H k)
noncomputable def seq8 (l m : List UInt8) : Bool :=
 List.rec (motive := fun _ => List UInt8 → Bool) (fun m => List.rec (motive := fun _ => Bool) true (fun _ _ _ => false) m)
  (fun a _ ih m => List.rec (motive := fun _ => Bool) false (fun b r _ => Bool.rec (motive := fun _ => Bool) false (ih r) (Nat.beq a.toNat b.toNat)) m) l m
inductive Kd where
 | i | b | s
 deriving Inhabited
inductive Sh where
 | one (q : Kd) | agg (ks : List Kd)
 deriving Inhabited
section
variable {α : Type}
noncomputable def eqK (q : Kd) (x y : AV) (k : Bool → α) (e : α) : α :=
 Kd.rec (motive := fun _ => α)
  (x.unInt (fun a => y.unInt (fun b => k (ieq a b)) e) (x.unIk (fun i a => y.unIk (fun j b => Bool.rec (motive := fun _ => α) e (k (ieq a b)) (Nat.beq (knd i) (knd j))) e) e))
  (x.unBool (fun a => y.unBool (fun b => k (Bool.rec (motive := fun _ => Bool) (bnot b) b a)) e) e)
  (x.unStr (fun a => y.unStr (fun b => k (seq8 a b)) e) e) q
noncomputable def eqL (ks : List Kd) (l m : List AV) (k : Bool → α) (e : α) : α :=
 List.rec (motive := fun _ => List AV → List AV → α)
  (fun l m => List.rec (motive := fun _ => α) (List.rec (motive := fun _ => α) (k true) (fun _ _ _ => e) m) (fun _ _ _ => e) l)
  (fun q _ ih l m => List.rec (motive := fun _ => α) e (fun a l' _ => List.rec (motive := fun _ => α) e (fun b m' _ => eqK q a b (fun t => Bool.rec (motive := fun _ => α) (k false) (ih l' m') t) e) m) l) ks l m
noncomputable def eqV (q : Sh) (x y : AV) (k : Bool → α) (e : α) : α :=
 Sh.rec (motive := fun _ => α) (fun q => eqK q x y k e) (fun ks => x.unAgg (fun l => y.unAgg (fun m => eqL ks l m k e) e) e) q
end
noncomputable def oEq (q : Sh) (x y : AO) : VOp := fun L T _ k => eqV q (x.ev L T) (y.ev L T) (fun b => k (.bool b)) (.er [8])
noncomputable def oNe (q : Sh) (x y : AO) : VOp := fun L T _ k => eqV q (x.ev L T) (y.ev L T) (fun b => k (.bool (bnot b))) (.er [8])
noncomputable def oEqn (n : Nat) (x : AO) : VOp := fun L T _ k => (x.ev L T).unNil (fun i b => Bool.rec (motive := fun _ => R Out) (.er [10]) (k (.bool b)) (Nat.beq i n)) (.er [10])
noncomputable def oNen (n : Nat) (x : AO) : VOp := fun L T _ k => (x.ev L T).unNil (fun i b => Bool.rec (motive := fun _ => R Out) (.er [10]) (k (.bool (bnot b))) (Nat.beq i n)) (.er [10])
noncomputable def oNot (x : AO) : VOp := fun L T _ k => (x.ev L T).unBool (fun b => k (.bool (bnot b))) (.er [37])
noncomputable def oNeg (x : AO) : VOp := fun L T _ k => (x.ev L T).unInt (fun n => mkInt (0 - n) k) (.er [38])
noncomputable def oConv (k : IntKind) (x : AO) : VOp := fun L T _ κ =>
 (x.ev L T).unInt (fun n => Bool.rec (motive := fun _ => R Out) (κ (.ik k (k.wrap n))) (Bool.rec (motive := fun _ => R Out) (.er [39]) (κ (.int n)) (inI64 n)) (Nat.beq (knd k) 3))
   ((x.ev L T).unIk (fun _ n => Bool.rec (motive := fun _ => R Out) (κ (.ik k (k.wrap n))) (κ (.int (IntKind.i64.wrap n))) (Nat.beq (knd k) 3)) (.er [39]))
noncomputable def oSame (x : AO) : VOp := fun L T _ k => (x.ev L T).unStr (fun l => k (.str l)) (.er [39])
noncomputable def oMkI (ty : Nat) (x : AO) : VOp := fun L T _ k => k (.ifc ty (x.ev L T))
noncomputable def oMkFn (f : Nat) (a c : List AO) : VOp := fun L T _ k => k (.fn f (evs L T a) (evs L T c))
section
variable {α : Type}
noncomputable def asNat (v : AV) (k : Nat → α) (e : α) : α := v.unInt (fun n => Int.rec (motive := fun _ => α) k (fun _ => e) n) e
noncomputable def optNat (v : Option AV) (d : Nat) (k : Nat → α) (e : α) : α := Option.rec (motive := fun _ => α) (k d) (fun v => asNat v k e) v
noncomputable def bounds (len cap : Nat) (lo hi mx : Option AV) (k : Nat → Nat → Nat → α) (e : α) : α :=
 optNat mx cap (fun m => optNat hi len (fun h => optNat lo 0 (fun l =>
  Bool.rec (motive := fun _ => α) e (k l h m) (band (Nat.ble l h) (band (Nat.ble h m) (Nat.ble m cap)))) e) e) e
end
noncomputable def offs (m l o s : Nat) : Nat := Bool.rec (motive := fun _ => Nat) (Nat.add o (Nat.mul l s)) o (Nat.beq m l)
noncomputable def oSlc (s : Nat) (x : AO) (lo hi mx : Option AO) : VOp := fun L T _ k =>
 (x.ev L T).unSl (bounds 0 0 (evo L T lo) (evo L T hi) (evo L T mx) (fun _ _ _ => k .nils) (.er [21]))
   (fun b o len cap => bounds len cap (evo L T lo) (evo L T hi) (evo L T mx) (fun l h m => k (.sl b (offs m l o s) (Nat.sub h l) (Nat.sub m l))) (.er [21]))
   (fun b o len lost => Option.rec (motive := fun _ => R Out)
     (bounds len len (evo L T lo) (evo L T hi) none (fun l h _ => Bool.rec (motive := fun _ => R Out)
       (Bool.rec (motive := fun _ => R Out) (.er [22]) (k (.su b (Nat.add o (Nat.mul l s)) (Nat.sub h l) (Nat.add lost l))) (Nat.ble (Nat.succ l) len))
       (k (.su b o h lost)) (Nat.beq l 0)) (.er [21]))
     (fun mx => bounds len len (evo L T lo) (evo L T hi) (some (mx.ev L T)) (fun l h m => k (.sl b (offs m l o s) (Nat.sub h l) (Nat.sub m l))) (.er [21])) mx) (.er [23])
noncomputable def oSlcS (x : AO) (lo hi : Option AO) : VOp := fun L T _ k =>
 (x.ev L T).unStr (fun l => bounds l.length l.length (evo L T lo) (evo L T hi) none (fun a b _ => k (.str ((l.drop a).take (b - a)))) (.er [21])) (.er [44])
noncomputable def oSlcA (n s : Nat) (x : AO) (lo hi mx : Option AO) : VOp := fun L T _ k =>
 (x.ev L T).unPtr (fun b o => bounds n n (evo L T lo) (evo L T hi) (evo L T mx) (fun l h m => k (.sl b (offs m l o s) (Nat.sub h l) (Nat.sub m l))) (.er [21])) (.er [45])
noncomputable def oFad (off : Nat) (x : AO) : VOp := fun L T _ k => (x.ev L T).unPtr (fun b o => k (.ptr b (Nat.add o off))) (.er [46])
noncomputable def oFld1 (off : Nat) (x : AO) : VOp := fun L T _ k => (x.ev L T).unAgg (fun l => lnth l off k (.er [48])) (.er [49])
noncomputable def oFldN (off n : Nat) (x : AO) : VOp := fun L T _ k => (x.ev L T).unAgg (fun l => ltake n (ldrop off l) (fun r => k (.agg r)) (.er [47])) (.er [49])
noncomputable def oIad (s : Nat) (x i : AO) : VOp := fun L T _ k => asNat (i.ev L T) (fun j =>
 (x.ev L T).unSl (.er [51]) (fun b o len _ => Bool.rec (motive := fun _ => R Out) (.er [50]) (k (.ptr b (Nat.add o (Nat.mul j s)))) (Nat.ble (Nat.succ j) len))
   (fun b o len _ => Bool.rec (motive := fun _ => R Out) (.er [50]) (k (.ptr b (Nat.add o (Nat.mul j s)))) (Nat.ble (Nat.succ j) len)) (.er [51])) (.er [52])
noncomputable def oIadA (n s : Nat) (x i : AO) : VOp := fun L T _ k => asNat (i.ev L T) (fun j =>
 (x.ev L T).unPtr (fun b o => Bool.rec (motive := fun _ => R Out) (.er [53]) (k (.ptr b (Nat.add o (Nat.mul j s)))) (Nat.ble (Nat.succ j) n)) (.er [54])) (.er [55])
noncomputable def oIdS (x i : AO) : VOp := fun L T _ k => asNat (i.ev L T) (fun j => (x.ev L T).unStr (fun l =>
 Option.rec (motive := fun _ => R Out) (.er [56]) (fun c => k (.ik .u8 (.ofNat c.toNat))) l[j]?) (.er [57])) (.er [58])
noncomputable def oIdA1 (n s : Nat) (x i : AO) : VOp := fun L T _ k => asNat (i.ev L T) (fun j => (x.ev L T).unAgg (fun l =>
 Bool.rec (motive := fun _ => R Out) (.er [61]) (lnth l (Nat.mul j s) k (.er [60])) (Nat.ble (Nat.succ j) n)) (.er [62])) (.er [63])
noncomputable def oIdAN (n s : Nat) (x i : AO) : VOp := fun L T _ k => asNat (i.ev L T) (fun j => (x.ev L T).unAgg (fun l =>
 Bool.rec (motive := fun _ => R Out) (.er [61]) (ltake s (ldrop (Nat.mul j s) l) (fun r => k (.agg r)) (.er [60])) (Nat.ble (Nat.succ j) n)) (.er [62])) (.er [63])
section
variable {α : Type}
noncomputable def findK (h : Sh) (q : AV) (es : List ME) (k : AV → α) (no e : α) : α :=
 List.rec (motive := fun _ => α) no (fun m _ ih => eqV h q m.key (fun t => Bool.rec (motive := fun _ => α) ih (k m.val) t) e) es
noncomputable def putK (h : Sh) (q v : AV) (clock : Nat) (es : List ME) (k : List ME → Nat → α) (e : α) : α :=
 List.rec (motive := fun _ => (List ME → Nat → α) → α) (fun k => k [⟨q, v, clock⟩] (Nat.succ clock))
  (fun m r ih k => eqV h q m.key (fun t => Bool.rec (motive := fun _ => α) (ih (fun r' c => k (m :: r') c)) (k (⟨q, v, m.born⟩ :: r) clock) t) e) es k
noncomputable def delK (h : Sh) (q : AV) (es : List ME) (k : List ME → α) (e : α) : α :=
 List.rec (motive := fun _ => (List ME → α) → α) (fun k => k [])
  (fun m r ih k => eqV h q m.key (fun t => Bool.rec (motive := fun _ => α) (ih (fun r' => k (m :: r'))) (k r) t) e) es k
end
noncomputable def chk (h : Sh) (q : AV) (k : R Out) : R Out :=
 Sh.rec (motive := fun _ => R Out) (fun _ => k) (fun ks => q.unAgg (fun l => Bool.rec (motive := fun _ => R Out) (.er [59]) k (Nat.beq (llen l) ks.length)) (.er [59])) h
noncomputable def oLook1 (h : Sh) (z : AV) (m q : AO) : VOp := fun L T H k => chk h (q.ev L T)
 ((m.ev L T).unMap (k z) (fun b => H.mapOf b (fun es _ _ => findK h (q.ev L T) es k (k z) (.er [64])) (.er [64])) (.er [65]))
noncomputable def oLook2 (h : Sh) (z : AV) (m q : AO) : VOp := fun L T H k => chk h (q.ev L T)
 ((m.ev L T).unMap (k (.tup [z, .bool false])) (fun b => H.mapOf b (fun es _ _ => findK h (q.ev L T) es (fun v => k (.tup [v, .bool true])) (k (.tup [z, .bool false])) (.er [64])) (.er [64])) (.er [65]))
noncomputable def oExt (x : AO) (i : Nat) : VOp := fun L T _ k => (x.ev L T).unTup (fun l => lnth l i k (.er [69])) (.er [70])
noncomputable def oLen (x : AO) : VOp := fun L T _ k =>
 (x.ev L T).unSl (k (.int (.ofNat 0))) (fun _ _ n _ => k (.int (.ofNat n))) (fun _ _ n _ => k (.int (.ofNat n))) (.er [71])
noncomputable def oLenS (x : AO) : VOp := fun L T _ k => (x.ev L T).unStr (fun l => k (.int (.ofNat l.length))) (.er [71])
noncomputable def oLenM (x : AO) : VOp := fun L T H k => (x.ev L T).unMap (k (.int (.ofNat 0))) (fun b => H.mapOf b (fun es _ _ => k (.int (.ofNat es.length))) (.er [72])) (.er [72])
noncomputable def oCap (x : AO) : VOp := fun L T _ k => (x.ev L T).unSl (k (.int (.ofNat 0))) (fun _ _ _ n => k (.int (.ofNat n))) (fun _ _ _ _ => .er [73]) (.er [73])
noncomputable def oMin (x y : AO) : VOp := fun L T _ k => (x.ev L T).unInt (fun a => (y.ev L T).unInt (fun b => k (.int (Bool.rec (motive := fun _ => Int) b a (ile a b)))) (.er [76])) (.er [76])
noncomputable def oMax (x y : AO) : VOp := fun L T _ k => (x.ev L T).unInt (fun a => (y.ev L T).unInt (fun b => k (.int (Bool.rec (motive := fun _ => Int) b a (ile b a)))) (.er [77])) (.er [77])
noncomputable def oNext (x : AO) : VOp := fun L T H k => (x.ev L T).unPtr (fun r o => Bool.rec (motive := fun _ => R Out) (.er [84])
 (H.iterOf r (fun m _ _ _ => Option.rec (motive := fun _ => R Out) (k (.tup [.bool false])) (fun b => H.mapOf b (fun es _ _ => List.rec (motive := fun _ => R Out) (k (.tup [.bool false])) (fun _ _ _ => .er [82]) es) (.er [82])) m) (.er [83])) (Nat.beq o 0)) (.er [84])
/-! ### operations that turn the heap -/
noncomputable def oAlloc (z : List AV) (ty : Nat) : HOp := fun _ _ _ H k => k (.ptr H.nx 0) (newCells H z ty 0)
noncomputable def oBox (ty : Nat) (x : AO) : HOp := fun _ L T H k => (x.ev L T).unTup (fun _ => .er [20]) (k (.ptr H.nx 0) (newCells H (cellsOf (x.ev L T)) ty 0))
noncomputable def oBuildS (z : List AV) (len ty : Nat) (ps : List (Nat × Nat × AO)) : HOp := fun _ L T H k => fillP L T ps (lrep z len) (fun c => k (.sl H.nx 0 len len) (newCells H c ty 0))
noncomputable def oStore (n : Nat) (x v : AO) : HOp := fun lim L T H k => (x.ev L T).unPtr (fun b o =>
 Bool.rec (motive := fun _ => R Out) (.er [34]) (H.write lim b o (cellsOf (v.ev L T)) (fun H' => k undf H')) (Nat.beq (llen (cellsOf (v.ev L T))) n)) (.er [35])
noncomputable def bytesOf (l : List UInt8) : List AV := l.map fun c => .ik .u8 (.ofNat c.toNat)
noncomputable def oS2b (ty : Nat) (x : AO) : HOp := fun _ L T H k => (x.ev L T).unStr (fun l =>
 Bool.rec (motive := fun _ => R Out) (.er [40]) (k (.su H.nx 0 l.length 0) (newCells H (bytesOf l) ty 1)) (Nat.ble l.length maxNeed)) (.er [41])
noncomputable def oMkMap : HOp := fun _ _ _ H k => k (.mp H.nx) (H.fresh (.map [] 0 H.cnt))
noncomputable def oMkSl (z : List AV) (ty bytes : Nat) (l c : AO) : HOp := fun _ L T H k => asNat (l.ev L T) (fun l => asNat (c.ev L T) (fun c =>
 Bool.rec (motive := fun _ => R Out) (.er [42]) (k (.sl H.nx 0 l c) (newCells H (lrep z c) ty 0)) (band (Nat.ble l c) (Nat.ble (Nat.mul c bytes) 1073741824))) (.er [43])) (.er [43])
noncomputable def oMup (h : Sh) (m q v : AO) : HOp := fun lim L T H k => chk h (q.ev L T) ((m.ev L T).unMap (.er [68]) (fun b => H.mapOf b (fun es clock birth =>
 Bool.rec (motive := fun _ => R Out) (.er [66]) (putK h (q.ev L T) (v.ev L T) clock es (fun es' c' => k undf (H.setB b (some (.map es' c' birth)))) (.er [67])) (Nat.ble lim birth)) (.er [67])) (.er [68]))
noncomputable def oDel (h : Sh) (m q : AO) : HOp := fun lim L T H k => chk h (q.ev L T) ((m.ev L T).unMap (.er [68]) (fun b => H.mapOf b (fun es clock birth =>
 Bool.rec (motive := fun _ => R Out) (.er [66]) (delK h (q.ev L T) es (fun es' => k undf (H.setB b (some (.map es' clock birth)))) (.er [67])) (Nat.ble lim birth)) (.er [67])) (.er [68]))
noncomputable def rdSl (H : AH) (s : Nat) (y : AV) (k : Nat → List AV → R Out) : R Out :=
 y.unSl (k 0 []) (fun b o len _ => Bool.rec (motive := fun _ => R Out) (H.read b o (Nat.mul len s) (fun l => k len l)) (k 0 []) (Nat.beq len 0))
  (fun b o len _ => Bool.rec (motive := fun _ => R Out) (H.read b o (Nat.mul len s) (fun l => k len l)) (k 0 []) (Nat.beq len 0))
  (y.unStr (fun l => Bool.rec (motive := fun _ => R Out) (.er [24]) (k l.length (bytesOf l)) (Nat.beq s 1)) (.er [24]))
noncomputable def grow (H : AH) (b : Pos) (l : List AV) (ty : Nat) (root : Pos) (ab o s len n : Nat) (old new : List AV) (k : AV → AH → R Out) : R Out :=
 let p := Nat.add (Nat.add ab o) (Nat.mul len s)
 let cs : AObj := .cells (old ++ new) ty root (Nat.add ab o) s H.cnt
 let v : AV := .su H.nx 0 (Nat.add len n) 0
 Option.rec (motive := fun _ => R Out)
  (H.with' fun bl nx cnt fam => k v ⟨PT.put nx (some cs) (Bool.rec (motive := fun _ => PT AObj) bl (PT.put b none bl) (Nat.ble (Nat.succ p) (Nat.add ab (llen l)))), nx.succ, Nat.succ cnt, PT.put root (some [nx, b]) fam⟩)
  (fun ids => H.with' fun bl nx cnt fam => k v ⟨PT.put nx (some cs) (killIn nx p (Nat.add p (Nat.mul n s)) ids bl), nx.succ, Nat.succ cnt, PT.put root (some (nx :: ids)) fam⟩)
  (PT.get root H.fam)
noncomputable def oApp (s ty : Nat) (x y : AO) : HOp := fun lim L T H k => rdSl H s (y.ev L T) (fun n new =>
 (x.ev L T).unSl
   (Bool.rec (motive := fun _ => R Out) (Bool.rec (motive := fun _ => R Out) (.er [25]) (k (.su H.nx 0 n 0) (newCells H new ty s)) (Nat.ble n maxNeed)) (k .nils H) (Nat.beq n 0))
   (fun b o len cap => Bool.rec (motive := fun _ => R Out)
     (Bool.rec (motive := fun _ => R Out) (.er [25]) (rdSl H s (.sl b o len cap) (fun _ old => k (.su H.nx 0 (Nat.add len n) 0) (newCells H (old ++ new) ty s))) (Nat.ble (Nat.add len n) maxNeed))
     (Bool.rec (motive := fun _ => R Out) (H.write lim b (Nat.add o (Nat.mul len s)) new (fun H' => k (.sl b o (Nat.add len n) cap) H')) (k (.sl b o len cap) H) (Nat.beq n 0))
     (Nat.ble (Nat.add len n) cap))
   (fun b o len lost => Bool.rec (motive := fun _ => R Out)
     (Bool.rec (motive := fun _ => R Out) (.er [25])
       (H.cells b (fun l ty' root ab g birth =>
         Bool.rec (motive := fun _ => R Out) (.er [27])
          (Bool.rec (motive := fun _ => R Out)
            (ltake (Nat.mul len s) (ldrop o l) (fun old => grow H b l ty root ab o s len n old new k) (.er [26]))
            (H.write lim b (Nat.add o (Nat.mul len s)) new (fun H' => k (.su b o (Nat.add len n) lost) H'))
            (Nat.ble (Nat.add o (Nat.mul (Nat.add len n) s)) (llen l)))
          (band (Nat.ble lim birth) (band (Nat.beq g s) (band (Nat.beq ty ty') (Nat.beq o (Nat.mul lost s)))))) (.er [28]))
       (Nat.ble (Nat.add len n) maxNeed))
     (k (.su b o len lost) H) (Nat.beq n 0)) (.er [29]))
noncomputable def oCopy (s : Nat) (x y : AO) : HOp := fun lim L T H k => rdSl H s (y.ev L T) (fun n l =>
 (x.ev L T).unSl (k (.int (.ofNat 0)) H)
   (fun b o len _ => ltake (Nat.mul (Nat.min n len) s) l (fun c => Bool.rec (motive := fun _ => R Out) (H.write lim b o c (fun H' => k (.int (.ofNat (Nat.min n len))) H')) (k (.int (.ofNat 0)) H) (Nat.beq (Nat.min n len) 0)) (.er [74]))
   (fun b o len _ => ltake (Nat.mul (Nat.min n len) s) l (fun c => Bool.rec (motive := fun _ => R Out) (H.write lim b o c (fun H' => k (.int (.ofNat (Nat.min n len))) H')) (k (.int (.ofNat 0)) H) (Nat.beq (Nat.min n len) 0)) (.er [74])) (.er [75]))
noncomputable def oClear (z : List AV) (x : AO) : HOp := fun lim L T H k => (x.ev L T).unSl (k undf H)
 (fun b o len _ => Bool.rec (motive := fun _ => R Out) (H.write lim b o (lrep z len) (fun H' => k undf H')) (k undf H) (Nat.beq len 0))
 (fun b o len _ => Bool.rec (motive := fun _ => R Out) (H.write lim b o (lrep z len) (fun H' => k undf H')) (k undf H) (Nat.beq len 0)) (.er [78])
noncomputable def oRng (x : AO) : HOp := fun _ L T H k => (x.ev L T).unMap (k (.ptr H.nx 0) (H.fresh (.iter none 0 0 H.cnt))) (fun b => H.mapOf b (fun _ clock _ => k (.ptr H.nx 0) (H.fresh (.iter (some b) clock 0 H.cnt))) (.er [80])) (.er [81])
/-! ### instructions -/
inductive Dst where
 | n | l | t (p : Pos)
 deriving Inhabited
noncomputable def putD (d : Dst) (v : AV) (L : List AV) (T : PT AV) (k : List AV → PT AV → R Out) : R Out :=
 Dst.rec (motive := fun _ => R Out) (k L T) (k (v :: L) T) (fun p => k L (PT.put p (some v) T)) d
noncomputable def iV (d : Dst) (o : VOp) (k : K) : K := fun E L T H => o L T H (fun v => putD d v L T (fun L' T' => k E L' T' H))
noncomputable def iH (d : Dst) (o : HOp) (k : K) : K := fun E L T H => o E.lim L T H (fun v H' => putD d v L T (fun L' T' => k E L' T' H'))
noncomputable def co (r : R CO) (kr kp : AV → AH → R Out) : R Out := R.rec (motive := fun _ => R Out) (fun c => CO.rec (motive := fun _ => R Out) kr kp c) (fun e => .er e) r
noncomputable def iC (d : Dst) (f : Nat) (xs : List AO) (k : K) : K := fun E L T H =>
 co (E.hd.call E.lim f (evs L T xs) H) (fun v H' => putD d v L T (fun L' T' => k E L' T' H')) (fun v H' => .ok (.mk (.pan v) T E.D H'))
noncomputable def iCv (d : Dst) (f : AO) (xs : List AO) (k : K) : K := fun E L T H =>
 (f.ev L T).unFn (fun g a c => co (E.hd.call E.lim g (a ++ (evs L T xs ++ c)) H) (fun v H' => putD d v L T (fun L' T' => k E L' T' H')) (fun v H' => .ok (.mk (.pan v) T E.D H')))
   (fun l => co (E.hd.round E.lim l (evs L T xs) H) (fun v H' => putD d v L T (fun L' T' => k E L' T' H')) (fun _ _ => .er [99])) (.er [30])
noncomputable def plainD (d : List ADf) : Bool := List.rec (motive := fun _ => Bool) true (fun a _ ih => ADf.rec (motive := fun _ => Bool) (fun _ => ih) (fun _ _ => ih) (fun _ => false) a) d
noncomputable def iDfr (f : AO) (xs : List AO) (k : K) : K := fun E L T H => Bool.rec (motive := fun _ => R Out) (.er [92]) ((f.ev L T).unFn (fun g a c => k ⟨E.hd, E.lim, E.lg, .clo (.fn g a c) (evs L T xs) :: E.D⟩ L T H) (fun _ => .er [30]) (.er [30])) (plainD E.D)
noncomputable def iPan (x : AO) (_ : K) : K := fun E L T H => (x.ev L T).unIfc (fun ty v => .ok (.mk (.pan (.ifc ty v)) T E.D H)) (.er [79])
noncomputable def iG (g : AO) (w : Bool) (d : Dst) (i : K → K) (k : K) : K := fun E L T H =>
 (g.ev L T).unBool (fun b => Bool.rec (motive := fun _ => R Out) (putD d undf L T (fun L' T' => k E L' T' H)) (i k E L T H) (Bool.rec (motive := fun _ => Bool) (bnot b) b w)) (putD d undf L T (fun L' T' => k E L' T' H))
noncomputable def iQ (i : K → K) (k : K) : K := fun E L T H => Bool.rec (motive := fun _ => R Out) (.er [112]) (i (fun E' L' T' H' => k ⟨E.hd, E.lim, E'.lg, E.D⟩ L' T' H') ⟨E.hd, H.cnt, E.lg, E.D⟩ L T H) (Nat.ble E.lim H.cnt)
noncomputable def memN (n : Nat) (l : List Nat) : Bool := List.rec (motive := fun _ => Bool) false (fun m _ ih => Bool.rec (motive := fun _ => Bool) ih true (Nat.beq n m)) l
noncomputable def clash (un : List Nat) (st : Bool) (b : Pos) (lg : Log) : Bool :=
 Log.rec (motive := fun _ => Bool) false (fun i st' b' _ ih => Bool.rec (motive := fun _ => Bool) ih true (band (Bool.rec (motive := fun _ => Bool) st' true st) (band (memN i un) (b.beq b')))) lg
noncomputable def soloB (b : Pos) (h : AH) : Bool := h.cells b (fun _ _ root _ _ _ => Option.rec (motive := fun _ => Bool) true (fun _ => false) (PT.get root h.fam)) false
noncomputable def iX (n : Nat) (st : Bool) (un : List Nat) (x : AO) (i : K → K) (k : K) : K := fun E L T H =>
 (x.ev L T).unPtr (fun b _ => Bool.rec (motive := fun _ => R Out) (.er [110]) (i (fun E' L' T' H' => k ⟨E.hd, E.lim, .cons n st b E'.lg, E.D⟩ L' T' H') E L T H)
   (band (bnot (clash un st b E.lg)) (Bool.rec (motive := fun _ => Bool) true (soloB b H) st))) (.er [111])
noncomputable def logAll (n : Nat) (ids : List Pos) (lg : Log) : Log := List.rec (motive := fun _ => Log) lg (fun b _ ih => .cons n true b ih) ids
noncomputable def clashAll (un : List Nat) (ids : List Pos) (lg : Log) : Bool := List.rec (motive := fun _ => Bool) false (fun b _ ih => Bool.rec (motive := fun _ => Bool) ih true (clash un true b lg)) ids
noncomputable def vws (H : AH) (b : Pos) : List Pos := H.cells b (fun _ _ root _ _ _ => Option.rec (motive := fun _ => List Pos) [b] (fun ids => b :: ids) (PT.get root H.fam)) [b]
noncomputable def apv (H : AH) (v : AV) : List Pos := v.unSl [] (fun b _ _ _ => vws H b) (fun b _ _ _ => vws H b) []
noncomputable def iA (n : Nat) (un : List Nat) (x : AO) (i : K → K) (k : K) : K := fun E L T H =>
 Bool.rec (motive := fun _ => R Out) (.er [114]) (i (fun E' L' T' H' => k ⟨E.hd, E.lim, logAll n (apv H (x.ev L T)) E'.lg, E.D⟩ L' T' H') E L T H) (bnot (clashAll un (apv H (x.ev L T)) E.lg))
noncomputable def iEnd : K := fun E _ T H => .ok (.mk .nrm T E.D H)
noncomputable def iBad (n : Nat) (_ : K) : K := fun _ _ _ _ => .er [85, n]
/-! ### code -/
noncomputable def out (r : R Out) (kn : PT AV → List ADf → AH → R Out) (ke : Nat → PT AV → List ADf → AH → R Out) : R Out :=
 R.rec (motive := fun _ => R Out) (fun o => Out.rec (motive := fun _ => R Out) (fun e t d h => Ex.rec (motive := fun _ => R Out) (kn t d h) (fun n => ke n t d h) (.ok (.mk .ret t d h)) (fun v => .ok (.mk (.pan v) t d h)) e) o) (fun e => .er e) r
noncomputable def cSkip : C := fun _ _ T D H => .ok (.mk .nrm T D H)
noncomputable def cReg (k : K) : C := fun hd lim T D H => k ⟨hd, lim, .nil, D⟩ [] T H
noncomputable def cRegD (k : K) : C := fun hd lim T D H => R.rec (motive := fun _ => R Out) (fun o => Out.rec (motive := fun _ => R Out) (fun e t d h => Ex.rec (motive := fun _ => R Out) (.ok (.mk .nrm t d h)) (fun _ => .er [86]) (.er [86]) (fun _ => .er [86]) e) o) (fun e => .er e) (k ⟨hd, lim, .nil, D⟩ [] T H)
noncomputable def cSeq (a b : C) : C := fun hd lim T D H => out (a hd lim T D H) (fun T' D' H' => b hd lim T' D' H') (fun n T' D' H' => .ok (.mk (.ex n) T' D' H'))
noncomputable def cCond (x : AO) (a b : C) : C := fun hd lim T D H => (x.ev [] T).unBool (fun t => Bool.rec (motive := fun _ => R Out) (b hd lim T D H) (a hd lim T D H) t) (.er [91])
noncomputable def cBlock (id : Nat) (b : C) : C := fun hd lim T D H => out (b hd lim T D H) (fun T' D' H' => .ok (.mk .nrm T' D' H')) (fun n T' D' H' => Bool.rec (motive := fun _ => R Out) (.ok (.mk (.ex n) T' D' H')) (.ok (.mk .nrm T' D' H')) (Nat.beq n id))
noncomputable def loopN (b : C) (n : Nat) : C := Nat.rec (motive := fun _ => C) (fun _ _ _ _ _ => .er [87]) (fun _ ih hd lim T D H => out (b hd lim T D H) (fun T' D' H' => ih hd lim T' D' H') (fun n T' D' H' => .ok (.mk (.ex n) T' D' H'))) n
noncomputable def cLoop (b : C) : C := loopN b 10000
noncomputable def cExit (id : Nat) : C := fun _ _ T D H => .ok (.mk (.ex id) T D H)
noncomputable def cRet : C := fun _ _ T D H => .ok (.mk .ret T D H)
noncomputable def cBad (n : Nat) : C := fun _ _ _ _ _ => .er [95, n]
noncomputable def cRangeF (f : AO) (code : Nat) : C := fun hd lim T D H =>
 Bool.rec (motive := fun _ => R Out) (.er [92]) (H.with' fun bl nx cnt fam => (f.ev [] T).unFn (fun g a c =>
  co (hd.call lim g (a ++ (AV.yld nx.succ :: c)) ⟨PT.put nx.succ (some (.loop .ready none code T nx (Nat.succ cnt))) (PT.put nx (some (.dblk cnt)) bl), nx.succ.succ, Nat.succ (Nat.succ cnt), fam⟩)
   (fun _ H' => H'.loopOf nx.succ (fun st pend code' t blk birth => Bool.rec (motive := fun _ => R Out) (.er [96]) (LoopState.rec (motive := fun _ => R Out)
     (Option.rec (motive := fun _ => R Out) (.ok (.mk .nrm T (.mark nx :: D) (H'.setB nx.succ (some (.loop .exhausted pend code' t blk birth))))) (fun _ => .er [93]) pend) (.er [88])
     (Option.rec (motive := fun _ => R Out) (.er [93]) (fun j => Nat.rec (motive := fun _ => R Out) (.ok (.mk .ret T (.mark nx :: D) (H'.setB nx.succ (some (.loop .exhausted pend code' t blk birth)))))
       (fun id _ => .ok (.mk (.ex id) T (.mark nx :: D) (H'.setB nx.succ (some (.loop .exhausted pend code' t blk birth))))) j) pend)
     (.er [93]) st) (Nat.ble lim birth)) (.er [90]))
   (fun _ _ => .er [93])) (fun _ => .er [94]) (.er [94])) (plainD D)
/-! ### functions -/
inductive ARes where
 | tmp (x : AO) | cell1 (x : AO) | cellN (x : AO) (n : Nat)
 deriving Inhabited
structure AF where
 ps : List (Option Pos)
 res : List ARes
 body : C
structure AR where
 ps : List (Option Pos)
 a : C
 b : C
noncomputable def initT (ps : List (Option Pos)) (vs : List AV) (T : PT AV) (k : PT AV → R CO) : R CO :=
 List.rec (motive := fun _ => List AV → PT AV → R CO) (fun vs T => List.rec (motive := fun _ => R CO) (k T) (fun _ _ _ => .er [98]) vs)
  (fun p _ ih vs T => List.rec (motive := fun _ => R CO) (.er [98]) (fun v r _ => ih r (Option.rec (motive := fun _ => PT AV) T (fun s => PT.put s (some v) T) p)) vs) ps vs T
noncomputable def endRound (lim : Nat) (l : Pos) (j : Option Nat) (H : AH) : R CO :=
 H.loopOf l (fun _ _ code t blk birth => Bool.rec (motive := fun _ => R CO) (.er [96])
  (Option.rec (motive := fun _ => R CO) (.ok (.ret (.bool true) (H.setB l (some (.loop .ready none code t blk birth))))) (fun i => .ok (.ret (.bool false) (H.setB l (some (.loop .done (some i) code t blk birth))))) j) (Nat.ble lim birth)) (.er [97])
noncomputable def rout (c : Nat) (r : R Out) (kn : PT AV → AH → R CO) (ke : Nat → AH → R CO) (kr : AH → R CO) : R CO :=
 R.rec (motive := fun _ => R CO) (fun o => Out.rec (motive := fun _ => R CO) (fun e T _ H => Ex.rec (motive := fun _ => R CO) (kn T H) (fun n => ke n H) (kr H) (fun _ => .er [c]) e) o) (fun e => .er e) r
noncomputable def evRound (rs : Nat → Option AR) (hd : Hd) (lim : Nat) (l : Pos) (xs : List AV) (H : AH) : R CO :=
 H.loopOf l (fun _ _ code t _ _ => Option.rec (motive := fun _ => R CO) (.er [100]) (fun r => initT r.ps xs t (fun t1 =>
  rout 100 (r.a hd lim t1 [.rnd l] H) (fun t2 h2 =>
   h2.loopOf l (fun st pend code t blk birth => LoopState.rec (motive := fun _ => R CO) (Bool.rec (motive := fun _ => R CO) (.er [101])
    (rout 99 (r.b hd lim t2 [.rnd l] (h2.setB l (some (.loop .busy pend code t blk birth)))) (fun _ h4 => endRound lim l none h4) (fun n h4 => endRound lim l (some (Nat.succ n)) h4) (fun h4 => endRound lim l (some 0) h4))
    (Nat.ble lim birth)) (.er [102]) (.er [102]) (.er [102]) st) (.er [102]))
   (fun _ _ => .er [100]) (fun _ => .er [100]))) (rs code)) (.er [102])
noncomputable def resl (T : PT AV) (H : AH) (rs : List ARes) (k : List AV → R CO) : R CO :=
 List.rec (motive := fun _ => (List AV → R CO) → R CO) (fun k => k [])
  (fun r _ ih k => ARes.rec (motive := fun _ => R CO) (fun x => ih (fun l => k (x.ev [] T :: l)))
    (fun x => (x.ev [] T).unPtr (fun b o => H.read1 b o (fun v => ih (fun l => k (v :: l)))) (.er [103]))
    (fun x n => (x.ev [] T).unPtr (fun b o => H.read b o n (fun c => ih (fun l => k (.agg c :: l)))) (.er [103])) r) rs k
noncomputable def tupl (l : List AV) : AV := List.rec (motive := fun _ => AV) (.tup []) (fun v r _ => List.rec (motive := fun _ => AV) v (fun w r' _ => .tup (v :: w :: r')) r) l
abbrev DHook := Nat → List AV → Option AV → AH → (Option AV → AH → R CO) → R CO
abbrev Hook := Nat → List AV → AH → R CO
noncomputable def leave (dh : Nat → Option DHook) (lim : Nat) (D : List ADf) (u : Option AV) (H : AH) (k : Option AV → AH → R CO) : R CO :=
 List.rec (motive := fun _ => Option AV → AH → R CO) (fun u H => k u H)
  (fun d _ ih u H => ADf.rec (motive := fun _ => R CO) (fun b => H.dblkOf b (fun birth => Bool.rec (motive := fun _ => R CO) (.er [108]) (ih u (H.setB b none)) (Nat.ble lim birth)) (.er [108]))
    (fun f xs => f.unFn (fun g a c => Option.rec (motive := fun _ => R CO) (.er [104]) (fun q => q lim (a ++ (xs ++ c)) u H ih) (dh g)) (fun _ => .er [104]) (.er [104]))
    (fun _ => .er [104]) d) D u H
noncomputable def finish (dh : Nat → Option DHook) (lim : Nat) (res : List ARes) (T : PT AV) (D : List ADf) (u : Option AV) (H : AH) : R CO :=
 leave dh lim D u H (fun u' H' => Option.rec (motive := fun _ => R CO) (resl T H' res (fun l => .ok (.ret (tupl l) H'))) (fun v => .ok (.pan v H')) u')
noncomputable def evF (fs : Nat → Option AF) (hk : Nat → Option Hook) (dh : Nat → Option DHook) (hd : Hd) (lim f : Nat) (xs : List AV) (H : AH) : R CO :=
 Option.rec (motive := fun _ => R CO)
  (Option.rec (motive := fun _ => R CO) (.er [105, f]) (fun F => AF.rec (motive := fun _ => R CO) (fun ps res body => initT ps xs .e (fun T =>
    R.rec (motive := fun _ => R CO) (fun o => Out.rec (motive := fun _ => R CO) (fun e T' D H' => Ex.rec (motive := fun _ => R CO)
     (finish dh lim res T' D none H') (fun _ => .er [106]) (finish dh lim res T' D none H') (fun v => finish dh lim res T' D (some v) H') e) o) (fun e => .er (f :: e)) (body hd lim T [] H))) F) (fs f))
  (fun q => q lim xs H) (hk f)
noncomputable def hdN (fs : Nat → Option AF) (rs : Nat → Option AR) (hk : Nat → Option Hook) (dh : Nat → Option DHook) (n : Nat) : Hd :=
 Nat.rec (motive := fun _ => Hd) ⟨fun _ _ _ _ => .er [107], fun _ _ _ _ => .er [107]⟩ (fun _ ih => ⟨evF fs hk dh ih, evRound rs ih⟩) n
end Av
end
section
namespace Av
open Go
def ofVal : Value → Option AV
 | .int k n => if k = .i64 then some (.int n) else some (.ik k n)
 | .bool b => some (.bool b)
 | .string s => some (.str s.data.toList)
 | .pointer none => some .nilp
 | .slice none 0 0 => some .nils
 | .map none => some .nilm
 | .func (.func f) a b => if a.size = 0 ∧ b.size = 0 then some (.fn f [] []) else none
 | .nilFunc => some .nilf
 | .nilIface => some .nili
 | _ => none
def ofVals : List Value → Option (List AV)
 | [] => some []
 | v :: l => match ofVal v, ofVals l with
   | some a, some r => some (a :: r)
   | _, _ => none
def zeroC (P : Program) (t : Nat) : Option (List AV) :=
 match P.info? t with
 | some i => match i.zero with
   | some v => ofVals v.cells.toList
   | none => none
 | none => none
def zeroV (P : Program) (t : Nat) : Option AV :=
 match P.info? t with
 | some i => match i.zero with
   | some (.agg cs) => (ofVals cs.toList).map .agg
   | some v => ofVal v
   | none => none
 | none => none
abbrev Sl := List (Nat × Pos)
def slot (σ : Sl) (t : Nat) : Option Pos := (σ.find? fun x => x.1 == t).map (·.2)
def idx (stk : List Nat) (t : Nat) : Option Nat := stk.findIdx? (· == t)
def opd (σ : Sl) (stk : List Nat) : Operand → Option AO
 | .tmp t => match slot σ t with
   | some p => some (.t p)
   | none => (idx stk t).map .l
 | .const v => (ofVal v).map .c
 | .global _ => none
 | .func f => some (.c (.fn f [] []))
section
variable (e : Operand → Option AO)
def opds : List Operand → Option (List AO)
 | [] => some []
 | x :: xs => match e x, opds xs with
   | some a, some r => some (a :: r)
   | _, _ => none
def opdo : Option Operand → Option (Option AO)
 | none => some none
 | some x => (e x).map some
end
def isAggT (P : Program) (t : Nat) : Bool := match P.underlying t with
 | some (.struct _) | some (.array ..) => true
 | _ => false
def szT (P : Program) (t : Nat) : Nat := match P.info? t with | some i => i.size | none => 0
def bytesT (P : Program) (t : Nat) : Nat := match P.info? t with | some i => i.bytes | none => 0
def scalK (P : Program) (t : Nat) : Option Kd := match P.underlying t with
 | some .bool => some .b
 | some (.int _) => some .i
 | some .string => some .s
 | _ => none
def kinds.go (P : Program) (K : Nat → Option (List Kd)) : List Field → Nat → Option (List Kd)
 | [], _ => some []
 | f :: fs, k => match K f.type with
   | some q => if f.offset = k ∧ f.name ≠ "_" ∧ q.length = szT P f.type then (kinds.go P K fs (k + q.length)).map (q ++ ·) else none
   | none => none
def kinds (P : Program) : Nat → Nat → Option (List Kd)
 | 0, _ => none
 | d + 1, t => match scalK P t with
   | some q => some [q]
   | none => match P.underlying t with
     | some (.struct fs) => if P.stoodInHeld t then none else kinds.go P (kinds P d) fs.toList 0
     | _ => none
def shT (P : Program) (t : Nat) : Option Sh := match scalK P t with
 | some q => some (.one q)
 | none => match kinds P 20 t with
   | some ks => if ks.length = szT P t then some (.agg ks) else none
   | none => none
def kyT (P : Program) : Nat → Nat → Bool
 | 0, _ => false
 | d + 1, t => (scalK P t).isSome || match P.underlying t with
   | some (.struct fs) => fs.toList.all fun f => kyT P d f.type && decide (f.offset < szT P t) && decide (f.offset + szT P f.type ≤ szT P t)
   | _ => false
def keyOK (P : Program) (t : Nat) : Bool := match shT P t with
 | some (.one _) => true
 | some (.agg _) => match P.underlying t with
   | some (.struct _) => kyT P 20 t
   | _ => false
 | none => false
def nilT (P : Program) (t : Nat) : Option Nat := match P.underlying t with
 | some (.pointer _) => some 0
 | some (.slice _) => some 1
 | some (.map ..) => some 2
 | some (.func ..) => some 3
 | some (.interface _) => some 4
 | _ => none
def nilC : Operand → Option Nat
 | .const (.pointer none) => some 0
 | .const (.slice none _ _) => some 1
 | .const (.map none) => some 2
 | .const .nilFunc => some 3
 | .const .nilIface => some 4
 | _ => none
section
variable (P : Program) (e : Operand → Option AO)
def fieldsP (fs : Array Field) : List (Nat × Operand) → Option (List (Nat × Nat × AO))
 | [] => some []
 | (i, x) :: ps => match fieldsP fs ps, fs[i]?, e x with
   | some r, some f, some a => if szT P f.type = 0 then none else some ((f.offset, szT P f.type, a) :: r)
   | _, _, _ => none
def rowP (s : Nat) : List (Nat × Operand) → Option (List (Nat × Nat × AO))
 | [] => some []
 | (i, x) :: ps => match rowP s ps, e x with
   | some r, some a => if s = 0 then none else some ((i * s, s, a) :: r)
   | _, _ => none
noncomputable def cmpBin (op : BinOp) (x y : AO) : Option VOp := match op with
 | .add => some (oAdd x y)
 | .sub => some (oInt2 iSub x y)
 | .mul => some (oInt2 iMul x y)
 | .quo => some (oInt2 iQuo x y)
 | .rem => some (oInt2 iRem x y)
 | .lss => some (oCmp cLss x y)
 | .leq => some (oCmp cLeq x y)
 | .gtr => some (oCmp cGtr x y)
 | .geq => some (oCmp cGeq x y)
 | _ => none
noncomputable def cmpEq (neg : Bool) (t : Nat) (x y : Operand) : Option VOp :=
 match nilT P t with
 | some n => if nilC y = some n then (e x).map (if neg then oNen n else oEqn n)
   else if nilC x = some n then (e y).map (if neg then oNen n else oEqn n) else none
 | none => match shT P t, e x, e y with
   | some q, some a, some b => if P.eqGuardType P.depth t then none else some (if neg then oNe q a b else oEq q a b)
   | _, _, _ => none
noncomputable def cmpV : Op → Option VOp
 | .move x | .assign x => (e x).map oMv
 | .pick c a b => match e c, e a, e b with
   | some c, some a, some b => some (oPick c a b)
   | _, _, _ => none
 | .build t ps => match P.underlying t, zeroC P t with
   | some (.struct fs), some z => if fs.toList.all fun f => (P.info? f.type).isSome then (fieldsP P e fs ps.toList).map (oBuild z) else none
   | some (.array _ el), some z => if (P.info? el).isSome then (rowP e (szT P el) ps.toList).map (oBuild z) else none
   | _, _ => none
 | .load t a => match P.underlying t with
   | none => none
   | some _ => (e a).map (if isAggT P t then oLoadN (szT P t) else oLoad1)
 | .nilCheck x => (e x).map oNil
 | .binOp op t x y _ => match op with
   | .eql => cmpEq P e false t x y
   | .neq => cmpEq P e true t x y
   | op => match e x, e y with
     | some a, some b => cmpBin op a b
     | _, _ => none
 | .unOp op _ x => match op with
   | .not => (e x).map oNot
   | .neg => (e x).map oNeg
   | _ => none
 | .convert s d x => match P.underlying s, P.underlying d with
   | some (.int _), some (.int k) => (e x).map (oConv k)
   | some .string, some .string => (e x).map oSame
   | _, _ => none
 | .makeInterface t x => match P.underlying t with
   | some (.interface _) => none
   | some _ => (e x).map (oMkI t)
   | none => none
 | .makeFunc (.func f) a c => match opds e a.toList, opds e c.toList with
   | some a, some c => some (oMkFn f a c)
   | _, _ => none
 | .slice t x lo hi mx => match P.underlying t, e x, opdo e lo, opdo e hi, opdo e mx with
   | some (.slice el), some x, some lo, some hi, some mx => if szT P el = 0 ∨ (mx.isSome ∧ hi.isNone) then none else some (oSlc (szT P el) x lo hi mx)
   | some .string, some x, some lo, some hi, some none => some (oSlcS x lo hi)
   | some (.array n el), some x, some lo, some hi, some mx => if szT P el = 0 ∨ (mx.isSome ∧ hi.isNone) then none else some (oSlcA n (szT P el) x lo hi mx)
   | _, _, _, _, _ => none
 | .fieldAddr t x f => match P.underlying t with
   | some (.struct fs) => match fs[f]? with
     | some fd => if szT P fd.type = 0 then none else (e x).map (oFad fd.offset)
     | none => none
   | _ => none
 | .field t x f => match P.underlying t with
   | some (.struct fs) => match fs[f]? with
     | some fd => match P.underlying fd.type with
       | none => none
       | some _ => (e x).map (if isAggT P fd.type then oFldN fd.offset (szT P fd.type) else oFld1 fd.offset)
     | none => none
   | _ => none
 | .indexAddr t x i => match P.underlying t, e x, e i with
   | some (.slice el), some x, some i => if szT P el = 0 then none else some (oIad (szT P el) x i)
   | some (.array n el), some x, some i => if szT P el = 0 then none else some (oIadA n (szT P el) x i)
   | _, _, _ => none
 | .index t x i => match P.underlying t, e x, e i with
   | some .string, some x, some i => some (oIdS x i)
   | some (.array n el), some x, some i => if szT P el = 0 ∨ (P.underlying el).isNone then none else some (if isAggT P el then oIdAN n (szT P el) x i else oIdA1 n (szT P el) x i)
   | _, _, _ => none
 | .lookup t m q ok => match P.underlying t with
   | some (.map kt el) => match zeroV P el, e m, e q, shT P kt with
     | some z, some m, some q, some h => if keyOK P kt then some (if ok then oLook2 h z m q else oLook1 h z m q) else none
     | _, _, _, _ => none
   | _ => none
 | .extract x i => (e x).map fun x => oExt x i
 | .next x false => (e x).map oNext
 | .call { callee := .builtin b, args, argTypes } => match b, args.toList, argTypes.toList with
   | .len, [x], [t] => match P.underlying t with
     | some (.slice _) => (e x).map oLen
     | some .string => (e x).map oLenS
     | some (.map ..) => (e x).map oLenM
     | _ => none
   | .cap, [x], [t] => match P.underlying t with
     | some (.slice _) => (e x).map oCap
     | _ => none
   | .min, [x, y], _ => match e x, e y with
     | some x, some y => some (oMin x y)
     | _, _ => none
   | .max, [x, y], _ => match e x, e y with
     | some x, some y => some (oMax x y)
     | _, _ => none
   | _, _, _ => none
 | _ => none
def isSeqT (t : Nat) : Bool := match P.underlying t with
 | some (.slice _) | some .string => true
 | _ => false
noncomputable def cmpH : Op → Option HOp
 | .alloc t => (zeroC P t).map fun z => oAlloc z t
 | .box t x => (e x).map (oBox t)
 | .buildSlice t len ps => match P.underlying t with
   | some (.slice el) => match zeroC P el, rowP e (szT P el) ps.toList with
     | some z, some ps => if szT P el = 0 ∨ len * szT P el > 2 ^ 20 ∨ z.length ≠ szT P el then none else some (oBuildS z len el ps)
     | _, _ => none
   | _ => none
 | .store t a v => match e a, e v with
   | some a, some v => if szT P t = 0 then none else some (oStore (szT P t) a v)
   | _, _ => none
 | .convert s d x => match P.underlying s, P.underlying d with
   | some .string, some (.slice el) => match P.underlying el with
     | some (.int .u8) => (e x).map (oS2b el)
     | _ => none
   | _, _ => none
 | .makeMap _ none => some oMkMap
 | .makeSlice t l c => match P.underlying t with
   | some (.slice el) => match zeroC P el, e l, e c with
     | some z, some l, some c => if szT P el = 0 ∨ bytesT P el = 0 ∨ z.length ≠ szT P el then none else some (oMkSl z el (bytesT P el) l c)
     | _, _, _ => none
   | _ => none
 | .mapUpdate t m q v | .insert t m q v => match P.underlying t with
   | some (.map kt _) => match e m, e q, e v, shT P kt with
     | some m, some q, some v, some h => if keyOK P kt then some (oMup h m q v) else none
     | _, _, _, _ => none
   | _ => none
 | .range t x => match P.underlying t with
   | some (.map ..) => (e x).map oRng
   | _ => none
 | .call { callee := .builtin b, args, argTypes } => match b, args.toList, argTypes.toList with
   | .append, [x, y], [t, u] => match P.underlying t with
     | some (.slice el) => match zeroC P el, e x, e y with
       | some z, some x, some y => if szT P el = 0 ∨ bytesT P el = 0 ∨ bytesT P el > 2 ^ 20 ∨ !isSeqT P u ∨ z.length ≠ szT P el then none else some (oApp (szT P el) el x y)
       | _, _, _ => none
     | _ => none
   | .copy, [x, y], t :: _ => match P.underlying t with
     | some (.slice el) => match e x, e y with
       | some x, some y => if szT P el = 0 then none else some (oCopy (szT P el) x y)
       | _, _ => none
     | _ => none
   | .clear, [x], [t] => match P.underlying t with
     | some (.slice el) => match zeroC P el, e x with
       | some z, some x => if szT P el = 0 ∨ z.length ≠ szT P el then none else some (oClear z x)
       | _, _ => none
     | _ => none
   | .delete, [m, q], t :: _ => match P.underlying t with
     | some (.map kt _) => match e m, e q, shT P kt with
       | some m, some q, some h => if keyOK P kt then some (oDel h m q) else none
       | _, _, _ => none
     | _ => none
   | _, _, _ => none
 | _ => none
noncomputable def cmpI (d : Dst) (n : Nat) (o : Op) : K → K :=
 match cmpV P e o with
 | some v => iV d v
 | none => match cmpH P e o with
   | some h => iH d h
   | none => match o with
     | .call { callee := .value (.func f), args, .. } => match opds e args.toList with
       | some xs => iC d f xs
       | none => iBad n
     | .call { callee := .value f, args, .. } => match e f, opds e args.toList with
       | some f, some xs => iCv d f xs
       | _, _ => iBad n
     | .defer { callee := .value f, args, .. } => match d, e f, opds e args.toList with
       | .n, some f, some xs => iDfr f xs
       | _, _, _ => iBad n
     | .panic x => match e x with
       | some x => iPan x
       | none => iBad n
     | _ => iBad n
end
def dstOf (σ : Sl) (n : Nat) : Option Nat → Dst
 | none => .n
 | some t => match slot σ t with
   | some p => .t p
   | none => if t < n then .l else .n
def pushed (σ : Sl) (n : Nat) (stk : List Nat) : Option Nat → List Nat
 | none => stk
 | some t => match slot σ t with
   | some _ => stk
   | none => if t < n then t :: stk else stk
def okS (n : Nat) : Sl → Bool
 | [] => true
 | x :: σ => decide (x.1 < n) && (σ.all fun y => decide (y.2 ≠ x.2) && decide (y.1 ≠ x.1)) && okS n σ
noncomputable def cmpG (e : Operand → Option AO) (d : Dst) (ops : Array Oper) (o : Oper) (n : Nat) (i : K → K) : K → K :=
 match o.guard with
 | none => i
 | some (j, w) => match (ops[j]?).bind (·.dst) with
   | some t => match e (.tmp t) with
     | some g => iG g w d i
     | none => iBad n
   | none => iBad n
noncomputable def cmpOps (P : Program) (σ : Sl) (nt : Nat) (ops : Array Oper) : List Oper → List Nat → Nat → K
 | [], _, _ => iEnd
 | o :: os, stk, n => cmpG (opd σ stk) (dstOf σ nt o.dst) ops o n (cmpI P (opd σ stk) (dstOf σ nt o.dst) n o.op) (cmpOps P σ nt ops os (pushed σ nt stk o.dst) (n + 1))
/-! ### regions that draw their order -/
def isPure (P : Program) : Op → Bool
 | .move _ | .assign _ | .pick .. | .build .. | .nilCheck _ | .binOp .. | .unOp .. | .makeInterface .. | .makeFunc .. | .slice .. | .fieldAddr .. | .field .. | .indexAddr .. | .index .. | .extract .. => true
 | .convert _ d _ => match P.underlying d with
   | some (.slice _) => false
   | _ => true
 | .call { callee := .builtin b, argTypes, .. } => match b, argTypes.toList with
   | .min, _ => true
   | .max, _ => true
   | .cap, _ => true
   | .len, [t] => isSeqT P t
   | _, _ => false
 | _ => false
def loud (P : Program) (o : Op) : Bool := !isPure P o
def isLd : Op → Bool
 | .load .. => true
 | _ => false
def isSt : Op → Bool
 | .store .. => true
 | _ => false
def isMk : Op → Bool
 | .alloc .. | .box .. | .buildSlice .. | .makeMap .. | .makeSlice .. => true
 | _ => false
def apX : Op → Option Operand
 | .call { callee := .builtin .append, args, .. } => match args.toList with
   | [x, _] => some x
   | _ => none
 | _ => none
def isAp (o : Op) : Bool := (apX o).isSome
def befores : List Oper → List Nat → List Nat
 | [], acc => acc
 | o :: os, acc => befores os (acc ++ [o.after.toList.foldl (fun s e => if Region.binds .any e then s ||| 2 ^ e.on ||| acc.getD e.on 0 else s) 0])
def ordd (bs : List Nat) (j k : Nat) : Bool := if j < k then (bs.getD k 0).testBit j else (bs.getD j 0).testBit k
def unOf (P : Program) (ops : Array Oper) (bs : List Nat) (k : Nat) : List Nat :=
 (List.range ops.size).filter fun j => j != k && !ordd bs j k && (match ops[j]? with | some o => loud P o.op | none => false)
def isLight (P : Program) : Op → Bool
 | .load .. | .lookup .. | .next .. | .alloc .. | .box .. | .buildSlice .. | .makeMap .. | .makeSlice .. => true
 | .call { callee := .builtin .len, .. } => true
 | _ => false
def atOp (ops : Array Oper) (p : Op → Bool) (j : Nat) : Bool := match ops[j]? with | some o => p o.op | none => false
def depOK (ops : Array Oper) (bs : List Nat) (n t : Nat) : Bool := (List.range ops.size).all fun j => !(((ops[j]?).bind (·.dst)) == some t) || ((bs.getD n 0).testBit j || (bs.getD j 0).testBit n)
def opdD (σ : Sl) (stk : List Nat) (ops : Array Oper) (bs : List Nat) (n : Nat) : Operand → Option AO
 | .tmp t => if depOK ops bs n t then opd σ stk (.tmp t) else none
 | x => opd σ stk x
def drawOK (nt : Nat) (ops : Array Oper) : Bool :=
 (List.range ops.size).all fun i => match ops[i]? with
   | none => true
   | some o => o.after.all (fun e => !Region.binds .any e || decide (e.on < i)) &&
      (match o.dst with | none => true | some d => decide (d < nt) && (List.range ops.size).all fun j => j == i || !(((ops[j]?).bind (·.dst)) == some d))
noncomputable def cmpHv (P : Program) (e : Operand → Option AO) (d : Dst) (n : Nat) (o : Op) : K → K :=
 match cmpH P e o with
 | some h => iH d h
 | none => match o with
   | .call { callee := .value (.func f), args, .. } => match opds e args.toList with
     | some xs => iC d f xs
     | none => iBad n
   | .call { callee := .value f, args, .. } => match e f, opds e args.toList with
     | some f, some xs => iCv d f xs
     | _, _ => iBad n
   | _ => iBad n
noncomputable def cmpDI (P : Program) (e : Operand → Option AO) (d : Dst) (ops : Array Oper) (un : List Nat) (n : Nat) (o : Op) : K → K :=
 match cmpV P e o with
 | some v => if isPure P o then iV d v else if un.isEmpty then iV d v else match o with
   | .load _ a => match e a with
     | some x => fun k => iX n false un x (iV d v) k
     | none => iBad n
   | _ => if un.all (atOp ops (isLight P)) then iV d v else iBad n
 | none => if !loud P o then iBad n else if isMk o then (if un.all (atOp ops fun o => !isSt o) then iQ (cmpHv P e d n o) else iBad n)
   else if un.isEmpty then cmpHv P e d n o
   else match o with
   | .store _ a _ => match e a with
     | some x => if un.all (atOp ops isLd) then fun k => iX n true un x (cmpHv P e d n o) k else iBad n
     | none => iBad n
   | o => match apX o, un.all (atOp ops isLd) with
     | some x, true => match e x with
       | some x => fun k => iA n un x (cmpHv P e d n o) k
       | none => iBad n
     | _, _ => if un.all (atOp ops fun o => isLd o || isMk o) then iQ (cmpHv P e d n o) else iBad n
noncomputable def cmpD (P : Program) (σ : Sl) (nt : Nat) (ops : Array Oper) (bs : List Nat) : List Oper → List Nat → Nat → K
 | [], _, _ => iEnd
 | o :: os, stk, n =>
   cmpG (opdD σ stk ops bs n) (dstOf σ nt o.dst) ops o n (cmpDI P (opdD σ stk ops bs n) (dstOf σ nt o.dst) ops (unOf P ops bs n) n o.op) (cmpD P σ nt ops bs os (pushed σ nt stk o.dst) (n + 1))
noncomputable def cmpC (P : Program) (σ : Sl) (nt f : Nat) : Code → C
 | .skip => cSkip
 | .region _ ops false => cReg (cmpOps P σ nt ops ops.toList [] 0)
 | .region _ ops true => if drawOK nt ops then cRegD (cmpD P σ nt ops (befores ops.toList []) ops.toList [] 0) else cBad 4
 | .seq a b => cSeq (cmpC P σ nt f a) (cmpC P σ nt f b)
 | .cond c a b => match opd σ [] c with
   | some x => cCond x (cmpC P σ nt f a) (cmpC P σ nt f b)
   | none => cBad 1
 | .block id b => cBlock id (cmpC P σ nt f b)
 | .loop b => cLoop (cmpC P σ nt f b)
 | .rangeFunc g _ _ _ => match opd σ [] g with
   | some x => cRangeF x f
   | none => cBad 2
 | .exit id => cExit id
 | .ret => cRet
 | _ => cBad 3
def rngs : Code → List (Array Nat × Code × Code)
 | .seq a b => rngs a ++ rngs b
 | .cond _ a b => rngs a ++ rngs b
 | .block _ b => rngs b
 | .loop b => rngs b
 | .rangeFunc _ ps a b => (ps, a, b) :: (rngs a ++ rngs b)
 | .scope b => rngs b
 | _ => []
def cmpRes (P : Program) (σ : Sl) : ResultVar → Option ARes
 | .tmp t => (opd σ [] (.tmp t)).map .tmp
 | .cell a t => match P.underlying t with
   | none => none
   | some _ => (opd σ [] (.tmp a)).map fun x => if isAggT P t then .cellN x (szT P t) else .cell1 x
def cmpRess (P : Program) (σ : Sl) : List ResultVar → Option (List ARes)
 | [] => some []
 | r :: rs => match cmpRes P σ r, cmpRess P σ rs with
   | some a, some l => some (a :: l)
   | _, _ => none
noncomputable def cmpF (P : Program) (σ : Sl) (f : Nat) (fn : Func) : Option AF :=
 match fn.body, cmpRess P σ fn.results.toList with
 | some b, some rs => if okS fn.ntmps σ ∧ fn.params.size + fn.nfree ≤ fn.ntmps then some { ps := (List.range (fn.params.size + fn.nfree)).map (slot σ), res := rs, body := cmpC P σ fn.ntmps f b } else none
 | _, _ => none
noncomputable def cmpR (P : Program) (σ : Sl) (nt f : Nat) (ps : Array Nat) (a b : Code) : AR :=
 { ps := ps.toList.map (slot σ), a := cmpC P σ nt f a, b := cmpC P σ nt f b }
end Av
end
section
namespace Av
open Go
/-! ### names -/
def Pos.num : Pos → Nat
 | .h => 1
 | .o p => 2 * p.num
 | .i p => 2 * p.num + 1
theorem Pos.num_pos : ∀ p : Pos, 0 < p.num
 | .h => by simp [Pos.num]
 | .o p => by have := p.num_pos; simp [Pos.num]; omega
 | .i p => by simp [Pos.num]
theorem Pos.num_inj : ∀ {p q : Pos}, p.num = q.num → p = q
 | .h, .h, _ => rfl
 | .h, .o q, e => by have := q.num_pos; simp [Pos.num] at e; omega
 | .h, .i q, e => by have := q.num_pos; simp [Pos.num] at e; omega
 | .o p, .h, e => by have := p.num_pos; simp [Pos.num] at e; omega
 | .o p, .o q, e => by rw [Pos.num_inj (p := p) (q := q) (by simp [Pos.num] at e; omega)]
 | .o p, .i q, e => by simp [Pos.num] at e; omega
 | .i p, .h, e => by have := p.num_pos; simp [Pos.num] at e; omega
 | .i p, .o q, e => by simp [Pos.num] at e; omega
 | .i p, .i q, e => by rw [Pos.num_inj (p := p) (q := q) (by simp [Pos.num] at e; omega)]
theorem Pos.num_succ : ∀ p : Pos, p.succ.num = p.num + 1
 | .h => rfl
 | .o p => by simp [Pos.succ, Pos.num]
 | .i p => by have := p.num_succ; simp [Pos.succ, Pos.num, this]; omega
theorem Pos.beq_iff : ∀ (p q : Pos), (p.beq q = true) ↔ p = q
 | .h, .h => by simp [Pos.beq]
 | .h, .o q => by simp [Pos.beq]
 | .h, .i q => by simp [Pos.beq]
 | .o p, .h => by simp [Pos.beq]
 | .o p, .o q => by have := Pos.beq_iff p q; simpa [Pos.beq] using this
 | .o p, .i q => by simp [Pos.beq]
 | .i p, .h => by simp [Pos.beq]
 | .i p, .o q => by simp [Pos.beq]
 | .i p, .i q => by have := Pos.beq_iff p q; simpa [Pos.beq] using this
/-! ### trees -/
theorem PT.get_e {α : Type} (p : Pos) : PT.get p (.e : PT α) = none := rfl
theorem PT.get_o {α : Type} (p : Pos) (l : PT α) (v : Option α) (r : PT α) : PT.get (.o p) (.n l v r) = PT.get p l := rfl
theorem PT.get_i {α : Type} (p : Pos) (l : PT α) (v : Option α) (r : PT α) : PT.get (.i p) (.n l v r) = PT.get p r := rfl
theorem PT.get_put {α : Type} (x : Option α) : ∀ (p q : Pos) (t : PT α), PT.get q (PT.put p x t) = if q = p then x else PT.get q t
 | .h, .h, .e => rfl
 | .h, .h, .n _ _ _ => rfl
 | .h, .o q, .e => by simp [PT.put, PT.get]
 | .h, .o q, .n _ _ _ => by simp [PT.put, PT.get]
 | .h, .i q, .e => by simp [PT.put, PT.get]
 | .h, .i q, .n _ _ _ => by simp [PT.put, PT.get]
 | .o p, .h, .e => by simp [PT.put, PT.get]
 | .o p, .h, .n _ _ _ => by simp [PT.put, PT.get]
 | .o p, .o q, .e => by have := PT.get_put x p q .e; show PT.get q (PT.put p x .e) = _; rw [this]; simp [PT.get_e]
 | .o p, .o q, .n l _ _ => by have := PT.get_put x p q l; show PT.get q (PT.put p x l) = _; rw [this]; simp [PT.get_o]
 | .o p, .i q, .e => by show PT.get q .e = _; simp [PT.get_e]
 | .o p, .i q, .n l _ r => by show PT.get q r = _; simp [PT.get_i]
 | .i p, .h, .e => by simp [PT.put, PT.get]
 | .i p, .h, .n _ _ _ => by simp [PT.put, PT.get]
 | .i p, .o q, .e => by show PT.get q .e = _; simp [PT.get_e]
 | .i p, .o q, .n l _ r => by show PT.get q l = _; simp [PT.get_o]
 | .i p, .i q, .e => by have := PT.get_put x p q .e; show PT.get q (PT.put p x .e) = _; rw [this]; simp [PT.get_e]
 | .i p, .i q, .n _ _ r => by have := PT.get_put x p q r; show PT.get q (PT.put p x r) = _; rw [this]; simp [PT.get_i]
/-! ### what a value is -/
section
variable {α : Type} {r : α}
theorem R.ne {β : Type} {e : List Nat} {a : β} : (R.er e : R β) ≠ .ok a := by intro h; cases h
end
section
variable {β : Type} {r : β} {c : List Nat}
theorem AV.unInt_ok {v : AV} {k : Int → R β} {e : R β} (h : v.unInt k e = .ok r) : (∃ n, v = .int n ∧ k n = .ok r) ∨ ((∀ n, v ≠ .int n) ∧ e = .ok r) := by
 cases v <;> first | exact .inl ⟨_, rfl, h⟩ | exact .inr ⟨by simp, h⟩
theorem AV.unIk_ok {v : AV} {k : IntKind → Int → R β} {e : R β} (h : v.unIk k e = .ok r) : (∃ i n, v = .ik i n ∧ k i n = .ok r) ∨ ((∀ i n, v ≠ .ik i n) ∧ e = .ok r) := by
 cases v <;> first | exact .inl ⟨_, _, rfl, h⟩ | exact .inr ⟨by simp, h⟩
theorem AV.unBool_ok {v : AV} {k : Bool → R β} {e : R β} (h : v.unBool k e = .ok r) : (∃ b, v = .bool b ∧ k b = .ok r) ∨ ((∀ b, v ≠ .bool b) ∧ e = .ok r) := by
 cases v <;> first | exact .inl ⟨_, rfl, h⟩ | exact .inr ⟨by simp, h⟩
theorem AV.unStr_ok {v : AV} {k : List UInt8 → R β} {e : R β} (h : v.unStr k e = .ok r) : (∃ l, v = .str l ∧ k l = .ok r) ∨ ((∀ l, v ≠ .str l) ∧ e = .ok r) := by
 cases v <;> first | exact .inl ⟨_, rfl, h⟩ | exact .inr ⟨by simp, h⟩
theorem AV.unPtr_ok {v : AV} {k : Pos → Nat → R β} {e : R β} (h : v.unPtr k e = .ok r) : (∃ b o, v = .ptr b o ∧ k b o = .ok r) ∨ ((∀ b o, v ≠ .ptr b o) ∧ e = .ok r) := by
 cases v <;> first | exact .inl ⟨_, _, rfl, h⟩ | exact .inr ⟨by simp, h⟩
theorem AV.unSl_ok {v : AV} {kn : R β} {ks ku : Pos → Nat → Nat → Nat → R β} {e : R β} (h : v.unSl kn ks ku e = .ok r) :
 (v = .nils ∧ kn = .ok r) ∨ (∃ b o l c, v = .sl b o l c ∧ ks b o l c = .ok r) ∨ (∃ b o l c, v = .su b o l c ∧ ku b o l c = .ok r) ∨ e = .ok r := by
 cases v <;> first | exact .inl ⟨rfl, h⟩ | exact .inr (.inl ⟨_, _, _, _, rfl, h⟩) | exact .inr (.inr (.inl ⟨_, _, _, _, rfl, h⟩)) | exact .inr (.inr (.inr h))
theorem AV.unMap_ok {v : AV} {kn : R β} {k : Pos → R β} {e : R β} (h : v.unMap kn k e = .ok r) : (v = .nilm ∧ kn = .ok r) ∨ (∃ b, v = .mp b ∧ k b = .ok r) ∨ e = .ok r := by
 cases v <;> first | exact .inl ⟨rfl, h⟩ | exact .inr (.inl ⟨_, rfl, h⟩) | exact .inr (.inr h)
theorem AV.unFn_ok {v : AV} {k : Nat → List AV → List AV → R β} {y : Pos → R β} {e : R β} (h : v.unFn k y e = .ok r) :
 (∃ f a c, v = .fn f a c ∧ k f a c = .ok r) ∨ (∃ l, v = .yld l ∧ y l = .ok r) ∨ e = .ok r := by
 cases v <;> first | exact .inl ⟨_, _, _, rfl, h⟩ | exact .inr (.inl ⟨_, rfl, h⟩) | exact .inr (.inr h)
theorem AV.unIfc_ok {v : AV} {k : Nat → AV → R β} {e : R β} (h : v.unIfc k e = .ok r) : (∃ t u, v = .ifc t u ∧ k t u = .ok r) ∨ e = .ok r := by
 cases v <;> first | exact .inl ⟨_, _, rfl, h⟩ | exact .inr h
theorem AV.unAgg_ok {v : AV} {k : List AV → R β} {e : R β} (h : v.unAgg k e = .ok r) : (∃ l, v = .agg l ∧ k l = .ok r) ∨ ((∀ l, v ≠ .agg l) ∧ e = .ok r) := by
 cases v <;> first | exact .inl ⟨_, rfl, h⟩ | exact .inr ⟨by simp, h⟩
theorem AV.unTup_ok {v : AV} {k : List AV → R β} {e : R β} (h : v.unTup k e = .ok r) : (∃ l, v = .tup l ∧ k l = .ok r) ∨ e = .ok r := by
 cases v <;> first | exact .inl ⟨_, rfl, h⟩ | exact .inr h
theorem bool_ok {b : Bool} {x y : R β} (h : Bool.rec (motive := fun _ => R β) x y b = .ok r) : (b = true ∧ y = .ok r) ∨ (b = false ∧ x = .ok r) := by
 cases b
 ·exact .inr ⟨rfl, h⟩
 ·exact .inl ⟨rfl, h⟩
theorem asNat_ok {v : AV} {k : Nat → R β} {e : List Nat} (h : asNat v k (.er e) = .ok r) : ∃ n : Nat, v = .int n ∧ k n = .ok r := by
 unfold asNat at h
 rcases AV.unInt_ok h with ⟨n, rfl, h⟩ | ⟨_, h⟩
 ·cases n with
  | ofNat n => exact ⟨n, rfl, h⟩
  | negSucc n => cases h
 ·cases h
/-! ### lists -/
theorem llen_eq (l : List AV) : llen l = l.length := by
 induction l with
 | nil => rfl
 | cons a l ih => show Nat.succ (llen l) = _; rw [ih]; rfl
theorem ldrop_eq : ∀ (n : Nat) (l : List AV), ldrop n l = l.drop n
 | 0, l => rfl
 | n + 1, [] => rfl
 | n + 1, a :: l => by show ldrop n l = _; rw [ldrop_eq n l]; rfl
theorem lget_eq : ∀ (n : Nat) (l : List AV), lget l n = l.getD n undf
 | 0, [] => rfl
 | 0, a :: l => rfl
 | n + 1, [] => rfl
 | n + 1, a :: l => by show lget l n = _; rw [lget_eq n l]; simp
theorem lnth_ok : ∀ {n : Nat} {l : List AV} {k : AV → R β} {e : List Nat}, lnth l n k (.er e) = .ok r → ∃ a, l[n]? = some a ∧ k a = .ok r
 | 0, [], _, _, h => by cases h
 | 0, a :: l, _, _, h => ⟨a, rfl, h⟩
 | n + 1, [], _, _, h => by cases h
 | n + 1, a :: l, k, e, h => by
   have h' : lnth l n k (.er e) = .ok r := h
   simpa using lnth_ok h'
theorem ltake_ok : ∀ {n : Nat} {l : List AV} {k : List AV → R β} {e : List Nat}, ltake n l k (.er e) = .ok r → n ≤ l.length ∧ k (l.take n) = .ok r
 | 0, l, k, _, h => ⟨Nat.zero_le _, by simpa using (show k [] = .ok r from h)⟩
 | n + 1, [], _, _, h => by cases h
 | n + 1, a :: l, k, e, h => by
   have h' : ltake n l (fun x => k (a :: x)) (.er e) = .ok r := h
   obtain ⟨h1, h2⟩ := ltake_ok h'
   exact ⟨by simpa using h1, by simpa using h2⟩
theorem lover_ok : ∀ {vs l : List AV} {k : List AV → R β} {e : List Nat}, lover vs l k (.er e) = .ok r → vs.length ≤ l.length ∧ k (vs ++ l.drop vs.length) = .ok r
 | [], l, k, _, h => ⟨Nat.zero_le _, by simpa using (show k l = .ok r from h)⟩
 | v :: vs, [], _, _, h => by cases h
 | v :: vs, a :: l, k, e, h => by
   have h' : lover vs l (fun x => k (v :: x)) (.er e) = .ok r := h
   obtain ⟨h1, h2⟩ := lover_ok h'
   exact ⟨by simpa using h1, by simpa using h2⟩
def over (o : Nat) (vs l : List AV) : List AV := l.take o ++ vs ++ l.drop (o + vs.length)
theorem lset_ok : ∀ {o : Nat} {vs l : List AV} {k : List AV → R β} {e : List Nat}, lset o vs l k (.er e) = .ok r → o + vs.length ≤ l.length ∧ k (over o vs l) = .ok r
 | 0, vs, l, k, e, h => by
   obtain ⟨h1, h2⟩ := lover_ok (show lover vs l k (.er e) = .ok r from h)
   exact ⟨by simpa using h1, by simpa [over] using h2⟩
 | o + 1, vs, [], _, _, h => by cases h
 | o + 1, vs, a :: l, k, e, h => by
   have h' : lset o vs l (fun x => k (a :: x)) (.er e) = .ok r := h
   obtain ⟨h1, h2⟩ := lset_ok h'
   exact ⟨by simp; omega, by simpa [over, Nat.add_right_comm] using h2⟩
theorem over_length {o : Nat} {vs l : List AV} (h : o + vs.length ≤ l.length) : (over o vs l).length = l.length := by
 simp [over]; omega
theorem over_get {o : Nat} {vs l : List AV} (h : o + vs.length ≤ l.length) (i : Nat) : (over o vs l)[i]? = if o ≤ i ∧ i < o + vs.length then vs[i - o]? else l[i]? := by
 unfold over
 have hto : (l.take o).length = o := by simp; omega
 by_cases h1 : i < o
 ·rw [if_neg (by omega), List.append_assoc, List.getElem?_append_left (by rw [hto]; exact h1), List.getElem?_take_of_lt h1]
 ·by_cases h2 : i < o + vs.length
  ·rw [if_pos ⟨by omega, h2⟩, List.getElem?_append_left (by simp [hto]; omega), List.getElem?_append_right (by rw [hto]; omega), hto]
  ·rw [if_neg (by omega), List.getElem?_append_right (by simp [hto]; omega), List.getElem?_drop]
   congr 1
   simp [hto]
   omega
/-! ### integers -/
theorem ile_iff (a b : Int) : ile a b = decide (a ≤ b) := by
 cases a with
 | ofNat a =>
   cases b with
   | ofNat b =>
     show Nat.ble a b = _
     rw [Bool.eq_iff_iff]; simp [Nat.ble_eq]
   | negSucc b =>
     show false = _
     symm; simp; omega
 | negSucc a =>
   cases b with
   | ofNat b => show true = _; symm; simp; omega
   | negSucc b =>
     show Nat.ble b a = _
     rw [Bool.eq_iff_iff]; simp [Nat.ble_eq]; omega
theorem ieq_iff (a b : Int) : ieq a b = (a == b) := by
 cases a with
 | ofNat a =>
   cases b with
   | ofNat b =>
     show Nat.beq a b = _
     rw [Bool.eq_iff_iff]; simp [Nat.beq_eq]; omega
   | negSucc b => show false = _; symm; simp
 | negSucc a =>
   cases b with
   | ofNat b => show false = _; symm; simp
   | negSucc b =>
     show Nat.beq a b = _
     rw [Bool.eq_iff_iff]; simp [Nat.beq_eq]
theorem iadd_eq (a b : Int) : iadd a b = a + b := by
 cases a <;> cases b <;> rfl
theorem bnot_eq (b : Bool) : bnot b = !b := by cases b <;> rfl
theorem band_eq (a b : Bool) : band a b = (a && b) := by cases a <;> rfl
theorem beq_of {m n : Nat} (h : Nat.beq m n = true) : m = n := Nat.eq_of_beq_eq_true h
theorem ble_of {m n : Nat} (h : Nat.ble m n = true) : m ≤ n := Nat.le_of_ble_eq_true h
theorem nbeq_of {m n : Nat} (h : Nat.beq m n = false) : m ≠ n := Nat.ne_of_beq_eq_false h
theorem nble_of {m n : Nat} (h : Nat.ble m n = false) : ¬ m ≤ n := fun h' => by rw [Nat.ble_eq_true_of_le h'] at h; cases h
theorem inI64_wrap {n : Int} (h : inI64 n = true) : IntKind.i64.wrap n = n := by
 have hb : -9223372036854775808 ≤ n ∧ n ≤ 9223372036854775807 := by
  cases n with
  | ofNat a => have := ble_of (show Nat.ble a 9223372036854775807 = true from h); simp only [Int.ofNat_eq_natCast]; omega
  | negSucc a => have := ble_of (show Nat.ble a 9223372036854775807 = true from h); omega
 unfold IntKind.wrap
 simp only [IntKind.bits, IntKind.signed, Bool.true_and, decide_eq_true_eq, ge_iff_le]
 have h1 : (2 : Int) ^ (64 - 1) = 9223372036854775808 := by decide
 have h2 : (2 : Int) ^ 64 = 18446744073709551616 := by decide
 rw [h1, h2]
 split <;> omega
theorem knd_inj {i j : IntKind} (h : knd i = knd j) : i = j := by cases i <;> cases j <;> first | rfl | (exact absurd h (by decide))
end
end Av
end
section
namespace Av
open Go Go.RowKit
structure M where
 ad : Pos → Nat
 off : Pos → Nat
 cap : Pos → Nat
mutual
def conc (m : M) : AV → Value
 | .int n => .int .i64 n
 | .ik k n => .int k n
 | .bool b => .bool b
 | .str l => .string ⟨l.toArray⟩
 | .ptr b o => .pointer (some ⟨m.ad b, m.off b + o, none⟩)
 | .nilp => .pointer none
 | .sl b o len cap => .slice (some ⟨m.ad b, m.off b + o, none⟩) len cap
 | .su b o len lost => .slice (some ⟨m.ad b, m.off b + o, none⟩) len (m.cap b - lost)
 | .nils => .slice none 0 0
 | .mp b => .map (some (m.ad b))
 | .nilm => .map none
 | .fn f a c => .func (.func f) (concL m a).toArray (concL m c).toArray
 | .yld l => .func (.yield (m.ad l)) #[] #[]
 | .nilf => .nilFunc
 | .ifc t v => .iface t (conc m v)
 | .nili => .nilIface
 | .agg l => .agg (concL m l).toArray
 | .tup l => .tuple (concL m l).toArray
def concL (m : M) : List AV → List Value
 | [] => []
 | v :: l => conc m v :: concL m l
end
theorem concL_eq (m : M) (l : List AV) : concL m l = l.map (conc m) := by
 induction l with
 | nil => rfl
 | cons v l ih => simp [concL, ih]
def sc : AV → Bool
 | .agg _ | .tup _ => false
 | _ => true
mutual
def okV (m : M) (N : Pos → Prop) : AV → Prop
 | .ptr b _ => N b
 | .sl b _ _ _ => N b
 | .su b _ len lost => N b ∧ lost + len ≤ m.cap b
 | .mp b => N b
 | .fn _ a c => okL m N a ∧ okL m N c
 | .yld l => N l
 | .ifc _ v => okV m N v
 | .agg l => okL m N l ∧ ∀ x ∈ l, sc x = true
 | .tup l => okL m N l
 | _ => True
def okL (m : M) (N : Pos → Prop) : List AV → Prop
 | [] => True
 | v :: l => okV m N v ∧ okL m N l
end
theorem okL_iff (m : M) (N : Pos → Prop) (l : List AV) : okL m N l ↔ ∀ x ∈ l, okV m N x := by
 induction l with
 | nil => simp [okL]
 | cons v l ih => simp [okL, ih]
structure Agree (N : Pos → Prop) (m m' : M) : Prop where
 ad : ∀ b, N b → m'.ad b = m.ad b
 off : ∀ b, N b → m'.off b = m.off b
 cap : ∀ b, N b → m'.cap b = m.cap b
theorem Agree.refl (N : Pos → Prop) (m : M) : Agree N m m := ⟨fun _ _ => rfl, fun _ _ => rfl, fun _ _ => rfl⟩
theorem Agree.mono {N N' : Pos → Prop} {m m' : M} (h : Agree N m m') (hn : ∀ b, N' b → N b) : Agree N' m m' := ⟨fun b hb => h.ad b (hn b hb), fun b hb => h.off b (hn b hb), fun b hb => h.cap b (hn b hb)⟩
theorem Agree.trans {N N' : Pos → Prop} {a b c : M} (h : Agree N a b) (h' : Agree N' b c) (hn : ∀ x, N x → N' x) : Agree N a c :=
 ⟨fun x hx => (h'.ad x (hn x hx)).trans (h.ad x hx), fun x hx => (h'.off x (hn x hx)).trans (h.off x hx), fun x hx => (h'.cap x (hn x hx)).trans (h.cap x hx)⟩
mutual
theorem conc_agree {N : Pos → Prop} {m m' : M} (h : Agree N m m') : ∀ v, okV m N v → conc m' v = conc m v
 | .int _, _ | .ik _ _, _ | .bool _, _ | .str _, _ | .nilp, _ | .nils, _ | .nilm, _ | .nilf, _ | .nili, _ => rfl
 | .ptr b o, hv => by simp only [conc]; rw [h.ad b hv, h.off b hv]
 | .sl b o _ _, hv => by simp only [conc]; rw [h.ad b hv, h.off b hv]
 | .su b o _ _, hv => by simp only [conc]; rw [h.ad b hv.1, h.off b hv.1, h.cap b hv.1]
 | .mp b, hv => by simp only [conc]; rw [h.ad b hv]
 | .yld b, hv => by simp only [conc]; rw [h.ad b hv]
 | .fn f a c, hv => by simp only [conc]; rw [concL_agree h a hv.1, concL_agree h c hv.2]
 | .ifc t v, hv => by simp only [conc]; rw [conc_agree h v hv]
 | .agg l, hv => by simp only [conc]; rw [concL_agree h l hv.1]
 | .tup l, hv => by simp only [conc]; rw [concL_agree h l hv]
theorem concL_agree {N : Pos → Prop} {m m' : M} (h : Agree N m m') : ∀ l, okL m N l → concL m' l = concL m l
 | [], _ => rfl
 | v :: l, hv => by simp only [concL]; rw [conc_agree h v hv.1, concL_agree h l hv.2]
end
mutual
theorem okV_agree {N N' : Pos → Prop} {m m' : M} (h : Agree N m m') (hn : ∀ b, N b → N' b) : ∀ v, okV m N v → okV m' N' v
 | .int _, _ | .ik _ _, _ | .bool _, _ | .str _, _ | .nilp, _ | .nils, _ | .nilm, _ | .nilf, _ | .nili, _ => by simp [okV]
 | .ptr b o, hv => hn b hv
 | .sl b o _ _, hv => hn b hv
 | .su b o _ _, hv => ⟨hn b hv.1, by rw [h.cap b hv.1]; exact hv.2⟩
 | .mp b, hv => hn b hv
 | .yld b, hv => hn b hv
 | .fn f a c, hv => ⟨okL_agree h hn a hv.1, okL_agree h hn c hv.2⟩
 | .ifc t v, hv => okV_agree h hn v hv
 | .agg l, hv => ⟨okL_agree h hn l hv.1, hv.2⟩
 | .tup l, hv => okL_agree h hn l hv
theorem okL_agree {N N' : Pos → Prop} {m m' : M} (h : Agree N m m') (hn : ∀ b, N b → N' b) : ∀ l, okL m N l → okL m' N' l
 | [], _ => trivial
 | v :: l, hv => ⟨okV_agree h hn v hv.1, okL_agree h hn l hv.2⟩
end
theorem conc_cells (m : M) (v : AV) (h : ∀ l, v ≠ .tup l) : (conc m v).cells = (concL m (cellsOf v)).toArray := by
 cases v <;> first | rfl | (exact absurd rfl (h _))
theorem cellsOf_ok {m : M} {N : Pos → Prop} {v : AV} (h : okV m N v) : ∀ x ∈ cellsOf v, sc x = true ∧ okV m N x := by
 cases v <;> first
  | (intro x hx; rw [show x = _ from List.mem_singleton.1 hx]; exact ⟨rfl, h⟩)
  | (intro x hx; cases hx; done)
  | (intro x hx; exact ⟨h.2 x hx, (okL_iff m N _).1 h.1 x hx⟩)
/-! ### the heap -/
def AObj.birth : AObj → Nat
 | .cells _ _ _ _ _ b => b
 | .map _ _ b => b
 | .loop _ _ _ _ _ b => b
 | .dblk b => b
 | .iter _ _ _ b => b
def meC (m : M) (e : ME) : MapEntry := ⟨conc m e.key, conc m e.val, e.born⟩
structure RInfo where
 params : Array Nat
 assign : Code
 body : Code
 σ : Sl
 size : Nat
structure FrT (m : M) (N : Pos → Prop) (σ : Sl) (n : Nat) (T : PT AV) (tmps : Array Value) : Prop where
 size : tmps.size = n
 val : ∀ t p, slot σ t = some p → tmps.getD t undef = conc m ((PT.get p T).getD undf)
 ok : ∀ p v, PT.get p T = some v → okV m N v
section
variable (ri : Nat → Option RInfo)
def encL : List Nat → Nat
 | [] => 0
 | n :: l => 2 ^ n * (2 * encL l + 1)
def LObj (m : M) (N : Pos → Prop) (b : Pos) (w : World) : AObj → Prop
 | .cells l ty _ _ g _ => ∃ cs fz, w.heap[m.ad b]? = some (.cells cs ty fz) ∧ (∀ i x, l[i]? = some x → cs[m.off b + i]? = some (conc m x)) ∧ (∀ x ∈ l, sc x = true ∧ okV m N x) ∧
    (∀ i, i < cs.size → ¬ (fz.1 ≤ i ∧ i < fz.2)) ∧ (g ≠ 0 → m.off b + m.cap b * g ≤ cs.size ∧ l.length ≤ m.cap b * g)
 | .map es clock _ => w.heap[m.ad b]? = some (.map (es.map (meC m)).toArray clock) ∧ (∀ e ∈ es, okV m N e.key ∧ okV m N e.val)
 | .loop st pend code t _ _ => ∃ r tmps d fn, ri code = some r ∧ FrT m N r.σ r.size t tmps ∧
    w.heap[m.ad b]? = some (.loop { state := st, pending := pend.map fun j => match j with | 0 => Code.ret | id + 1 => Code.exit id, fn := fn, tmps := tmps, params := r.params, assign := r.assign, body := r.body, defers := d })
 | .dblk _ => w.heap[m.ad b]? = some (.deferred (some []))
 | .iter mo since stepped _ => m.off b = 0 ∧ (∃ sn : List Nat, encL sn = stepped ∧ w.heap[m.ad b]? = some (.mapIter (mo.map m.ad) since sn.toArray since)) ∧ ∀ x, mo = some x → N x
def Fam (m : M) (H : AH) (b b' : Pos) : Prop :=
 ∃ l ty root ab g birth l' ty' ab' g' birth', PT.get b H.bl = some (.cells l ty root ab g birth) ∧ PT.get b' H.bl = some (.cells l' ty' root ab' g' birth') ∧ m.off b + ab' = m.off b' + ab
structure Wf (lim : Nat) (H : AH) : Prop where
 lt : ∀ b o, PT.get b H.bl = some o → b.num < H.nx.num ∧ o.birth < H.cnt
 root : ∀ b l ty root ab g birth, PT.get b H.bl = some (.cells l ty root ab g birth) → root = b ∨ ∃ ids, PT.get root H.fam = some ids ∧ b ∈ ids
 rootIn : ∀ r ids, PT.get r H.fam = some ids → r ∈ ids
 mem : ∀ r ids, PT.get r H.fam = some ids → ∀ x ∈ ids, x.num < H.nx.num ∧ ∀ o, PT.get x H.bl = some o → ∃ l ty ab g birth, o = .cells l ty r ab g birth
 old : ∀ r ids, PT.get r H.fam = some ids → ∀ x ∈ ids, ∀ y ∈ ids, ∀ ox oy, PT.get x H.bl = some ox → PT.get y H.bl = some oy → lim ≤ ox.birth → lim ≤ oy.birth
structure Rel (m : M) (N D : Pos → Prop) (lim B : Nat) (H : AH) (w : World) : Prop where
 lt : ∀ b, N b → b.num < H.nx.num
 sub : ∀ b, D b → N b
 obj : ∀ b o, D b → PT.get b H.bl = some o → LObj ri m N b w o
 perm : ∀ b o, D b → PT.get b H.bl = some o → lim ≤ o.birth → B ≤ m.ad b
 apart : ∀ b b' o o', D b → D b' → PT.get b H.bl = some o → PT.get b' H.bl = some o' → b ≠ b' → m.ad b = m.ad b' → Fam m H b b'
 wf : Wf lim H
 base : B ≤ w.heap.size
end
def Keep (lim : Nat) (H H' : AH) : Prop := ∀ b o, PT.get b H.bl = some o → o.birth < lim → PT.get b H'.bl = some o
end Av
end
section
namespace Av
open Go Go.RowKit
variable {ri : Nat → Option RInfo} {m m' : M} {N N' D D' : Pos → Prop} {lim B : Nat} {H H' : AH} {w w' : World}
theorem FrT.keep {σ : Sl} {n : Nat} {T : PT AV} {tmps : Array Value} (h : FrT m N σ n T tmps) (ha : Agree N m m') (hn : ∀ x, N x → N' x) : FrT m' N' σ n T tmps := by
 refine ⟨h.size, fun t p hs => ?_, fun p v hp => okV_agree ha hn v (h.ok p v hp)⟩
 rw [h.val t p hs]
 cases hp : PT.get p T with
 | none => simp [undf, conc, concL]
 | some v => simpa using (conc_agree ha v (h.ok p v hp)).symm
theorem LObj.keep {b : Pos} {o : AObj} (h : LObj ri m N b w o) (hb : N b) (ha : Agree N m m') (hn : ∀ x, N x → N' x) (hw : w'.heap[m.ad b]? = w.heap[m.ad b]?) : LObj ri m' N' b w' o := by
 have e1 := ha.ad b hb
 have e2 := ha.off b hb
 have e3 := ha.cap b hb
 cases o with
 | cells l ty root ab g birth =>
   obtain ⟨cs, fz, h1, h2, h3, h4, h5⟩ := h
   refine ⟨cs, fz, by rw [e1, hw, h1], fun i x hx => ?_, fun x hx => ⟨(h3 x hx).1, okV_agree ha hn x (h3 x hx).2⟩, h4, fun hg => by rw [e2, e3]; exact h5 hg⟩
   rw [e2, h2 i x hx, conc_agree ha x (h3 x (List.mem_of_getElem? hx)).2]
 | map es clock birth =>
   obtain ⟨h1, h2⟩ := h
   refine ⟨?_, fun e he => ⟨okV_agree ha hn _ (h2 e he).1, okV_agree ha hn _ (h2 e he).2⟩⟩
   rw [e1, hw, h1]
   congr 3
   refine List.map_congr_left fun e he => ?_
   unfold meC
   rw [conc_agree ha _ (h2 e he).1, conc_agree ha _ (h2 e he).2]
 | loop st pend code t blk birth =>
   obtain ⟨r, tmps, d, fn, h1, h2, h3⟩ := h
   exact ⟨r, tmps, d, fn, h1, h2.keep ha hn, by rw [e1, hw, h3]⟩
 | dblk birth => show _ = _; rw [e1, hw]; exact h
 | iter mo since stepped birth =>
   obtain ⟨h1, ⟨sn, h20, h2⟩, h3⟩ := h
   refine ⟨by rw [e2]; exact h1, ⟨sn, h20, ?_⟩, fun x hx => hn x (h3 x hx)⟩
   rw [e1, hw, h2]
   cases mo with
   | none => rfl
   | some x => simp [ha.ad x (h3 x rfl)]
theorem Rel.world (h : Rel ri m N D lim B H w) (hw : ∀ b o, D b → PT.get b H.bl = some o → w'.heap[m.ad b]? = w.heap[m.ad b]?) (hB : B ≤ w'.heap.size) : Rel ri m N D lim B H w' :=
 ⟨h.lt, h.sub, fun b o hb ho => (h.obj b o hb ho).keep (h.sub b hb) (Agree.refl _ _) (fun _ x => x) (hw b o hb ho), h.perm, h.apart, h.wf, hB⟩
theorem LObj.lt {b : Pos} {o : AObj} (h : LObj ri m N b w o) : m.ad b < w.heap.size := by
 have : ∃ x, w.heap[m.ad b]? = some x := by
  cases o with
  | cells l ty root ab g birth => obtain ⟨cs, fz, h1, _⟩ := h; exact ⟨_, h1⟩
  | map es clock birth => exact ⟨_, h.1⟩
  | loop st pend code t blk birth => obtain ⟨r, tmps, d, _, _, _, h3⟩ := h; exact ⟨_, h3⟩
  | dblk birth => exact ⟨_, h⟩
  | iter mo since stepped birth => obtain ⟨_, _, h2⟩ := h.2.1; exact ⟨_, h2⟩
 obtain ⟨x, hx⟩ := this
 exact (Array.getElem?_eq_some_iff.1 hx).1
def M.set (m : M) (b : Pos) (a o c : Nat) : M := ⟨fun x => if x = b then a else m.ad x, fun x => if x = b then o else m.off x, fun x => if x = b then c else m.cap x⟩
theorem M.set_ad (m : M) (b : Pos) (a o c : Nat) : (m.set b a o c).ad b = a := by simp [M.set]
theorem M.set_off (m : M) (b : Pos) (a o c : Nat) : (m.set b a o c).off b = o := by simp [M.set]
theorem M.set_cap (m : M) (b : Pos) (a o c : Nat) : (m.set b a o c).cap b = c := by simp [M.set]
theorem Agree.set {b : Pos} (hb : ¬ N b) (m : M) (a o c : Nat) : Agree N m (m.set b a o c) := by
 refine ⟨fun x hx => ?_, fun x hx => ?_, fun x hx => ?_⟩ <;> (have : x ≠ b := fun e => hb (e ▸ hx); simp [M.set, this])
def more (N : Pos → Prop) (b : Pos) : Pos → Prop := fun x => N x ∨ x = b
theorem Rel.nx (h : Rel ri m N D lim B H w) : ¬ N H.nx := fun hn => Nat.lt_irrefl _ (h.lt _ hn)
theorem fresh_bl (H : AH) (o : AObj) (x : Pos) : PT.get x (H.fresh o).bl = if x = H.nx then some o else PT.get x H.bl := by
 cases H; exact PT.get_put _ _ _ _
theorem fresh_nx (H : AH) (o : AObj) : (H.fresh o).nx = H.nx.succ := by cases H; rfl
theorem fresh_cnt (H : AH) (o : AObj) : (H.fresh o).cnt = H.cnt + 1 := by cases H; rfl
theorem fresh_fam (H : AH) (o : AObj) : (H.fresh o).fam = H.fam := by cases H; rfl
theorem newCells_eq (H : AH) (l : List AV) (ty g : Nat) : newCells H l ty g = H.fresh (.cells l ty H.nx 0 g H.cnt) := by cases H; rfl
theorem getElem?_push_lt {w : World} {ob : Obj} {k : Nat} (h : k < w.heap.size) : (w.alloc ob).heap[k]? = w.heap[k]? := Below.heap_alloc w ob k h
theorem alloc_size (w : World) (ob : Obj) : (w.alloc ob).heap.size = w.heap.size + 1 := by show (w.heap.push ob).size = _; simp
theorem alloc_last (w : World) (ob : Obj) : (w.alloc ob).heap[w.heap.size]? = some ob := by show (w.heap.push ob)[w.heap.size]? = _; simp
theorem Wf.no (h : Wf lim H) : PT.get H.nx H.bl = none := by
 cases hx : PT.get H.nx H.bl with
 | none => rfl
 | some o => exact absurd (h.lt _ o hx).1 (Nat.lt_irrefl _)
theorem Wf.fresh (h : Wf lim H) {o : AObj} (hb : o.birth = H.cnt) (hr : ∀ l ty root ab g birth, o = .cells l ty root ab g birth → root = H.nx) : Wf lim (H.fresh o) := by
 have hne : ∀ r ids, PT.get r H.fam = some ids → ∀ x ∈ ids, x ≠ H.nx := fun r ids hi x hx e => by
  have := (h.mem r ids hi x hx).1
  rw [e] at this
  exact Nat.lt_irrefl _ this
 refine ⟨fun b x hx => ?_, fun b l ty root ab g birth hx => ?_, fun r ids hi => ?_, fun r ids hi x hx => ⟨?_, fun ox ho => ?_⟩, fun r ids hi x hx y hy ox oy ho hoy hl => ?_⟩
 ·rw [fresh_nx, fresh_cnt, Pos.num_succ]
  rw [fresh_bl] at hx
  split at hx
  ·cases hx; subst b; omega
  ·have := h.lt b x hx; omega
 ·rw [fresh_fam]
  rw [fresh_bl] at hx
  split at hx
  ·cases hx; subst b; exact .inl (hr _ _ _ _ _ _ rfl)
  ·exact h.root b l ty root ab g birth hx
 ·rw [fresh_fam] at hi; exact h.rootIn r ids hi
 ·rw [fresh_fam] at hi; rw [fresh_nx, Pos.num_succ]; have := (h.mem r ids hi x hx).1; omega
 ·rw [fresh_fam] at hi; rw [fresh_bl, if_neg (hne r ids hi x hx)] at ho; exact (h.mem r ids hi x hx).2 ox ho
 ·rw [fresh_fam] at hi
  rw [fresh_bl, if_neg (hne r ids hi x hx)] at ho
  rw [fresh_bl, if_neg (hne r ids hi y hy)] at hoy
  exact h.old r ids hi x hx y hy ox oy ho hoy hl
theorem Keep.fresh (h : Wf lim H) (o : AObj) (lim' : Nat) : Keep lim' H (H.fresh o) := fun b x hx _ => by
 rw [fresh_bl, if_neg (fun e => by rw [e, h.no] at hx; cases hx)]
 exact hx
theorem Rel.fresh (h : Rel ri m N D lim B H w) {o : AObj} {ob : Obj} {c : Nat} (hb : o.birth = H.cnt) (hr : ∀ l ty root ab g birth, o = .cells l ty root ab g birth → root = H.nx)
 (ho : LObj ri (m.set H.nx w.heap.size 0 c) (more N H.nx) H.nx (w.alloc ob) o) :
 Rel ri (m.set H.nx w.heap.size 0 c) (more N H.nx) (more D H.nx) lim B (H.fresh o) (w.alloc ob) := by
 have hnx := h.nx
 have ha : Agree N m (m.set H.nx w.heap.size 0 c) := Agree.set hnx m _ _ _
 have hne : ∀ b, D b → b ≠ H.nx := fun b hb e => hnx (e ▸ h.sub b hb)
 have hold : ∀ b x, D b → PT.get b (H.fresh o).bl = some x → PT.get b H.bl = some x := fun b x hb hx => by rwa [fresh_bl, if_neg (hne b hb)] at hx
 have hlt : ∀ b x, D b → PT.get b H.bl = some x → m.ad b < w.heap.size := fun b x hb hx => (h.obj b x hb hx).lt
 refine ⟨fun b hb => ?_, fun b hb => hb.imp (h.sub b) id, fun b x hb hx => ?_, fun b x hb hx hl => ?_, fun b b' x x' hb hb' hx hx' hne' had => ?_, h.wf.fresh hb hr, ?_⟩
 ·rw [fresh_nx, Pos.num_succ]
  rcases hb with hb | rfl
  ·have := h.lt b hb; omega
  ·omega
 ·rcases hb with hb | rfl
  ·have hx' := hold b x hb hx
   exact (h.obj b x hb hx').keep (h.sub b hb) ha (fun _ y => .inl y) (getElem?_push_lt (hlt b x hb hx'))
  ·rw [fresh_bl, if_pos rfl] at hx
   cases hx
   exact ho
 ·rcases hb with hb | rfl
  ·rw [ha.ad b (h.sub b hb)]
   exact h.perm b x hb (hold b x hb hx) hl
  ·rw [M.set_ad]; exact h.base
 ·rcases hb with hb | rfl
  ·rcases hb' with hb' | rfl
   ·rw [ha.ad b (h.sub b hb), ha.ad b' (h.sub b' hb')] at had
    obtain ⟨l, ty, root, ab, g, birth, l', ty', ab', g', birth', f1, f2, f6⟩ := h.apart b b' x x' hb hb' (hold b x hb hx) (hold b' x' hb' hx') hne' had
    refine ⟨l, ty, root, ab, g, birth, l', ty', ab', g', birth', ?_, ?_, ?_⟩
    ·rw [fresh_bl, if_neg (hne b hb)]; exact f1
    ·rw [fresh_bl, if_neg (hne b' hb')]; exact f2
    ·rw [ha.off b (h.sub b hb), ha.off b' (h.sub b' hb')]; exact f6
   ·rw [ha.ad b (h.sub b hb), M.set_ad] at had
    have := hlt b x hb (hold b x hb hx)
    omega
  ·rcases hb' with hb' | rfl
   ·rw [ha.ad b' (h.sub b' hb'), M.set_ad] at had
    have := hlt b' x' hb' (hold b' x' hb' hx')
    omega
   ·exact absurd rfl hne'
 ·rw [alloc_size]; have := h.base; omega
/-! ### reading -/
theorem cells_ok {β : Type} {b : Pos} {k : List AV → Nat → Pos → Nat → Nat → Nat → R β} {e : List Nat} {r : β} (h : H.cells b k (.er e) = .ok r) :
 ∃ l ty root ab g birth, PT.get b H.bl = some (.cells l ty root ab g birth) ∧ k l ty root ab g birth = .ok r := by
 unfold AH.cells at h
 cases ho : PT.get b H.bl with
 | none => rw [ho] at h; cases h
 | some o =>
   rw [ho] at h
   cases o with
   | cells l ty root ab g birth => exact ⟨l, ty, root, ab, g, birth, rfl, h⟩
   | _ => cases h
theorem mapOf_ok {β : Type} {b : Pos} {k : List ME → Nat → Nat → R β} {e : List Nat} {r : β} (h : H.mapOf b k (.er e) = .ok r) :
 ∃ es clock birth, PT.get b H.bl = some (.map es clock birth) ∧ k es clock birth = .ok r := by
 unfold AH.mapOf at h
 cases ho : PT.get b H.bl with
 | none => rw [ho] at h; cases h
 | some o =>
   rw [ho] at h
   cases o with
   | map es clock birth => exact ⟨es, clock, birth, rfl, h⟩
   | _ => cases h
theorem loopOf_ok {β : Type} {b : Pos} {k : LoopState → Option Nat → Nat → PT AV → Pos → Nat → R β} {e : List Nat} {r : β} (h : H.loopOf b k (.er e) = .ok r) :
 ∃ st pend code t blk birth, PT.get b H.bl = some (.loop st pend code t blk birth) ∧ k st pend code t blk birth = .ok r := by
 unfold AH.loopOf at h
 cases ho : PT.get b H.bl with
 | none => rw [ho] at h; cases h
 | some o =>
   rw [ho] at h
   cases o with
   | loop st pend code t blk birth => exact ⟨st, pend, code, t, blk, birth, rfl, h⟩
   | _ => cases h
theorem iterOf_ok {β : Type} {b : Pos} {k : Option Pos → Nat → Nat → Nat → R β} {e : List Nat} {r : β} (h : H.iterOf b k (.er e) = .ok r) :
 ∃ mo since stepped birth, PT.get b H.bl = some (.iter mo since stepped birth) ∧ k mo since stepped birth = .ok r := by
 unfold AH.iterOf at h
 cases ho : PT.get b H.bl with
 | none => rw [ho] at h; cases h
 | some o =>
   rw [ho] at h
   cases o with
   | iter mo since stepped birth => exact ⟨mo, since, stepped, birth, rfl, h⟩
   | _ => cases h
theorem cell_of {b : Pos} {l : List AV} {ty : Nat} {root : Pos} {ab g birth : Nat} (h : LObj ri m N b w (.cells l ty root ab g birth)) {i : Nat} {x : AV} (hx : l[i]? = some x) : w.cell? ⟨m.ad b, m.off b + i, none⟩ = some (conc m x) := by
 obtain ⟨cs, fz, h1, h2, _⟩ := h
 simp [World.cell?, h1, h2 i x hx]
theorem frozen_of {b : Pos} {l : List AV} {ty : Nat} {root : Pos} {ab g birth : Nat} (h : LObj ri m N b w (.cells l ty root ab g birth)) {i : Nat} (hi : i < l.length) : w.frozen? ⟨m.ad b, m.off b + i, none⟩ = false := by
 obtain ⟨cs, fz, h1, h2, _, h4, _⟩ := h
 have hlt : m.off b + i < cs.size := (Array.getElem?_eq_some_iff.1 (h2 i _ (List.getElem?_eq_getElem hi))).1
 have := h4 _ hlt
 simp only [World.frozen?, h1]
 simp only [Bool.and_eq_false_iff, decide_eq_false_iff_not]
 omega
theorem read_ok {β : Type} {b : Pos} {o n : Nat} {k : List AV → R β} {r : β} (h : H.read b o n k = .ok r) :
 ∃ l ty root ab g birth, PT.get b H.bl = some (.cells l ty root ab g birth) ∧ o + n ≤ l.length + (if n = 0 then o else 0) ∧ k ((l.drop o).take n) = .ok r ∧ n ≤ (l.drop o).length := by
 obtain ⟨l, ty, root, ab, g, birth, h1, h2⟩ := cells_ok h
 obtain ⟨h3, h4⟩ := ltake_ok h2
 rw [ldrop_eq] at h3 h4
 refine ⟨l, ty, root, ab, g, birth, h1, ?_, h4, h3⟩
 simp at h3
 split <;> omega
theorem read1_ok {β : Type} {b : Pos} {o : Nat} {k : AV → R β} {r : β} (h : H.read1 b o k = .ok r) :
 ∃ l ty root ab g birth x, PT.get b H.bl = some (.cells l ty root ab g birth) ∧ l[o]? = some x ∧ k x = .ok r := by
 obtain ⟨l, ty, root, ab, g, birth, h1, h2⟩ := cells_ok h
 obtain ⟨x, h3, h4⟩ := lnth_ok h2
 exact ⟨l, ty, root, ab, g, birth, x, h1, h3, h4⟩
theorem addr_add (a o n : Nat) : (⟨a, o, none⟩ : Addr).add n = ⟨a, o + n, none⟩ := by
 unfold Addr.add
 split
 ·subst n; rfl
 ·rfl
theorem run_read {P : Program} {b : Pos} {l : List AV} {ty : Nat} {root : Pos} {ab g birth : Nat} (h : LObj ri m N b w (.cells l ty root ab g birth)) {o n : Nat} (hn : n ≤ (l.drop o).length) :
 (loadCells ⟨m.ad b, m.off b + o, none⟩ n).run P w = .ok (concL m ((l.drop o).take n)).toArray w := by
 have hl : (concL m ((l.drop o).take n)).length = n := by rw [concL_eq]; simp at hn ⊢; omega
 have := run_loadCells_list (P := P) w ⟨m.ad b, m.off b + o, none⟩ (concL m ((l.drop o).take n)) (fun j v hj => by
  rw [addr_add]
  rw [concL_eq, List.getElem?_map] at hj
  obtain ⟨x, hx, rfl⟩ := Option.map_eq_some_iff.1 hj
  have hjn : j < n := by
   have := (List.getElem?_eq_some_iff.1 hx).1
   simp at this
   omega
  rw [List.getElem?_take_of_lt hjn, List.getElem?_drop] at hx
  rw [Nat.add_assoc]
  exact cell_of h hx)
 rwa [hl] at this
end Av
end
section
namespace Av
open Go Go.RowKit
variable {ri : Nat → Option RInfo} {m m' : M} {N N' D D' : Pos → Prop} {lim B : Nat} {H H' : AH} {w w' : World}
/-! ### views given up -/
def Hit (t : PT AObj) (x : Pos) (p q : Nat) : Prop := ∃ l ty root ab g birth, PT.get x t = some (.cells l ty root ab g birth) ∧ ab < q ∧ p < ab + l.length
theorem killIn_self (b : Pos) (p q : Nat) (ys : List Pos) (t : PT AObj) : killIn b p q (b :: ys) t = killIn b p q ys t := by
 have hb : b.beq b = true := (Pos.beq_iff b b).2 rfl
 show Bool.rec (motive := fun _ => PT AObj) _ (killIn b p q ys t) (b.beq b) = _
 rw [hb]
theorem killIn_cons (b : Pos) (p q : Nat) (y : Pos) (ys : List Pos) (t : PT AObj) (hy : y ≠ b) :
 (Hit t y p q ∧ killIn b p q (y :: ys) t = killIn b p q ys (PT.put y none t)) ∨ (¬ Hit t y p q ∧ killIn b p q (y :: ys) t = killIn b p q ys t) := by
 have hb : y.beq b = false := by
  cases hc : y.beq b with
  | false => rfl
  | true => exact absurd ((Pos.beq_iff y b).1 hc) hy
 have e0 : killIn b p q (y :: ys) t = Option.rec (motive := fun _ => PT AObj) (killIn b p q ys t) (fun o => AObj.rec (motive := fun _ => PT AObj)
  (fun l _ _ ab _ _ => Bool.rec (motive := fun _ => PT AObj) (killIn b p q ys t) (killIn b p q ys (PT.put y none t)) (band (Nat.ble (Nat.succ ab) q) (Nat.ble (Nat.succ p) (Nat.add ab (llen l)))))
  (fun _ _ _ => killIn b p q ys t) (fun _ _ _ _ _ _ => killIn b p q ys t) (fun _ => killIn b p q ys t) (fun _ _ _ _ => killIn b p q ys t) o) (PT.get y t) := by
  show Bool.rec (motive := fun _ => PT AObj) _ (killIn b p q ys t) (y.beq b) = _
  rw [hb]
  rfl
 rw [e0]
 cases ho : PT.get y t with
 | none => exact .inr ⟨fun ⟨_, _, _, _, _, _, h, _⟩ => (by rw [ho] at h; cases h), rfl⟩
 | some o =>
   cases o with
   | cells l ty root ab g birth =>
     cases hc : band (Nat.ble (Nat.succ ab) q) (Nat.ble (Nat.succ p) (Nat.add ab (llen l))) with
     | true =>
       refine .inl ⟨⟨l, ty, root, ab, g, birth, ho, ?_⟩, ?_⟩
       ·rw [band_eq, Bool.and_eq_true] at hc
        have h1 := ble_of hc.1
        have h2 := ble_of hc.2
        rw [llen_eq] at h2
        exact ⟨h1, h2⟩
       ·show Bool.rec (motive := fun _ => PT AObj) _ _ _ = _
        rw [hc]
     | false =>
       refine .inr ⟨?_, ?_⟩
       ·rintro ⟨l', ty', root', ab', g', birth', h, h1, h2⟩
        rw [ho] at h
        cases h
        rw [band_eq, Bool.and_eq_false_iff] at hc
        rcases hc with hc | hc
        ·exact nble_of hc h1
        ·exact nble_of hc (by rw [llen_eq]; exact h2)
       ·show Bool.rec (motive := fun _ => PT AObj) _ _ _ = _
        rw [hc]
   | _ => exact .inr ⟨fun ⟨_, _, _, _, _, _, h, _⟩ => (by rw [ho] at h; cases h), rfl⟩
theorem killIn_get (b : Pos) (p q : Nat) : ∀ (ids : List Pos) (t : PT AObj) (x : Pos),
 (PT.get x (killIn b p q ids t) = none ∧ x ∈ ids ∧ x ≠ b ∧ Hit t x p q) ∨ (PT.get x (killIn b p q ids t) = PT.get x t ∧ (x ∈ ids → x ≠ b → ¬ Hit t x p q))
 | [], t, x => .inr ⟨rfl, fun h => by cases h⟩
 | y :: ys, t, x => by
   by_cases hy : y = b
   ·subst hy
    rw [killIn_self]
    rcases killIn_get y p q ys t x with ⟨h1, h2, h3, h4⟩ | ⟨h1, h2⟩
    ·exact .inl ⟨h1, List.mem_cons_of_mem _ h2, h3, h4⟩
    ·refine .inr ⟨h1, fun hx hne => ?_⟩
     rcases List.mem_cons.1 hx with e | hx
     ·exact absurd e hne
     ·exact h2 hx hne
   ·rcases killIn_cons b p q y ys t hy with ⟨hh, e⟩ | ⟨hh, e⟩
    ·rw [e]
     rcases killIn_get b p q ys (PT.put y none t) x with ⟨h1, h2, h3, h4⟩ | ⟨h1, h2⟩
     ·have hxy : x ≠ y := by
       rintro rfl
       obtain ⟨_, _, _, _, _, _, h, _⟩ := h4
       rw [PT.get_put, if_pos rfl] at h
       cases h
      obtain ⟨l, ty, root, ab, g, birth, h, h5⟩ := h4
      rw [PT.get_put, if_neg hxy] at h
      exact .inl ⟨h1, List.mem_cons_of_mem _ h2, h3, l, ty, root, ab, g, birth, h, h5⟩
     ·by_cases hxy : x = y
      ·subst hxy
       rw [PT.get_put, if_pos rfl] at h1
       exact .inl ⟨h1, List.mem_cons_self, hy, hh⟩
      ·rw [PT.get_put, if_neg hxy] at h1
       refine .inr ⟨h1, fun hx hne => ?_⟩
       rcases List.mem_cons.1 hx with e' | hx
       ·exact absurd e' hxy
       ·rintro ⟨l, ty, root, ab, g, birth, h, h5⟩
        exact h2 hx hne ⟨l, ty, root, ab, g, birth, by rw [PT.get_put, if_neg hxy]; exact h, h5⟩
    ·rw [e]
     rcases killIn_get b p q ys t x with ⟨h1, h2, h3, h4⟩ | ⟨h1, h2⟩
     ·exact .inl ⟨h1, List.mem_cons_of_mem _ h2, h3, h4⟩
     ·refine .inr ⟨h1, fun hx hne => ?_⟩
      rcases List.mem_cons.1 hx with e' | hx
      ·subst e'; exact hh
      ·exact h2 hx hne
theorem kill_nx (H : AH) (b root : Pos) (p q : Nat) : (H.kill b root p q).nx = H.nx := by
 unfold AH.kill; cases PT.get root H.fam <;> (cases H; rfl)
theorem kill_cnt (H : AH) (b root : Pos) (p q : Nat) : (H.kill b root p q).cnt = H.cnt := by
 unfold AH.kill; cases PT.get root H.fam <;> (cases H; rfl)
theorem kill_fam (H : AH) (b root : Pos) (p q : Nat) : (H.kill b root p q).fam = H.fam := by
 unfold AH.kill; cases PT.get root H.fam <;> (cases H; rfl)
theorem kill_bl (H : AH) (b root : Pos) (p q : Nat) (x : Pos) :
 (PT.get x (H.kill b root p q).bl = none ∧ x ≠ b ∧ Hit H.bl x p q ∧ ∃ ids, PT.get root H.fam = some ids ∧ x ∈ ids) ∨
 (PT.get x (H.kill b root p q).bl = PT.get x H.bl ∧ ∀ ids, PT.get root H.fam = some ids → x ∈ ids → x ≠ b → ¬ Hit H.bl x p q) := by
 unfold AH.kill
 cases hf : PT.get root H.fam with
 | none => exact .inr ⟨rfl, fun ids h => by cases h⟩
 | some ids =>
   have : (Option.rec (motive := fun _ => AH) H (fun ids => H.with' fun bl nx cnt fam => ⟨killIn b p q ids bl, nx, cnt, fam⟩) (some ids)).bl = killIn b p q ids H.bl := by cases H; rfl
   rw [this]
   rcases killIn_get b p q ids H.bl x with ⟨h1, h2, h3, h4⟩ | ⟨h1, h2⟩
   ·exact .inl ⟨h1, h3, h4, ids, rfl, h2⟩
   ·exact .inr ⟨h1, fun ids' e => by cases e; exact h2⟩
theorem setB_bl (H : AH) (b : Pos) (o : Option AObj) (x : Pos) : PT.get x (H.setB b o).bl = if x = b then o else PT.get x H.bl := by
 cases H; exact PT.get_put _ _ _ _
theorem setB_nx (H : AH) (b : Pos) (o : Option AObj) : (H.setB b o).nx = H.nx := by cases H; rfl
theorem setB_cnt (H : AH) (b : Pos) (o : Option AObj) : (H.setB b o).cnt = H.cnt := by cases H; rfl
theorem setB_fam (H : AH) (b : Pos) (o : Option AObj) : (H.setB b o).fam = H.fam := by cases H; rfl
/-! ### the cells of a world -/
theorem setCells_heap (c : Nat) : ∀ (vs : List Value) (o : Nat) (w : World) (cs : Array Value) (ty : Nat) (fz : Nat × Nat), w.heap[c]? = some (.cells cs ty fz) →
 ∃ cs', (w.setCells c o vs).heap[c]? = some (.cells cs' ty fz) ∧ cs'.size = cs.size ∧ ∀ i, i < cs.size → cs'[i]? = if o ≤ i ∧ i < o + vs.length then vs[i - o]? else cs[i]?
 | [], o, w, cs, ty, fz, h => ⟨cs, h, rfl, fun i hi => by rw [if_neg (by simp only [List.length_nil]; omega)]⟩
 | v :: vs, o, w, cs, ty, fz, h => by
   have h1 : (w.setCell ⟨c, o, none⟩ v).heap[c]? = some (.cells (cs.setIfInBounds o v) ty fz) := by
    obtain ⟨hlt, hg⟩ := Array.getElem?_eq_some_iff.1 h
    show (w.heap.modify c _)[c]? = _
    rw [Array.getElem?_eq_getElem (by rw [Array.size_modify]; exact hlt), Array.getElem_modify_self, hg]
    rfl
   obtain ⟨cs', h2, h3, h4⟩ := setCells_heap c vs (o + 1) (w.setCell ⟨c, o, none⟩ v) _ ty fz h1
   refine ⟨cs', h2, by rw [h3]; simp, fun i hi => ?_⟩
   rw [h4 i (by simpa using hi)]
   by_cases e : i = o
   ·subst e
    rw [if_neg (by omega), if_pos ⟨Nat.le_refl _, by simp⟩]
    simp [hi]
   ·by_cases e2 : o + 1 ≤ i ∧ i < o + 1 + vs.length
    ·rw [if_pos e2, if_pos ⟨by omega, by simp; omega⟩, show i - o = (i - (o + 1)) + 1 from by omega, List.getElem?_cons_succ]
    ·rw [if_neg e2, if_neg (by simp; omega)]
     simp [Array.getElem?_setIfInBounds]
     intro e3
     omega
theorem setCells_other (c : Nat) : ∀ (vs : List Value) (o : Nat) (w : World) (k : Nat), k ≠ c → (w.setCells c o vs).heap[k]? = w.heap[k]?
 | [], _, _, _, _ => rfl
 | v :: vs, o, w, k, h => by rw [World.setCells, setCells_other c vs (o + 1) _ k h]; exact Below.heap_setCell w _ v k h
theorem setCells_size (c : Nat) : ∀ (vs : List Value) (o : Nat) (w : World), (w.setCells c o vs).heap.size = w.heap.size
 | [], _, _ => rfl
 | v :: vs, o, w => by rw [World.setCells, setCells_size c vs (o + 1) _]; simp [World.setCell]
theorem setCells_below (c : Nat) : ∀ (vs : List Value) (o : Nat) (w : World), B ≤ c → Below B w (w.setCells c o vs)
 | [], _, _, _ => Below.refl _ _
 | v :: vs, o, w, h => ((Below.refl B w).setCell (p := ⟨c, o, none⟩) h v).trans (setCells_below c vs (o + 1) _ h)
theorem sc_oneCell {x : AV} (h : sc x = true) : (conc m x).oneCell' = true := by
 cases x
 case agg l => exact (Bool.false_ne_true (show false = true from h)).elim
 case tup l => exact (Bool.false_ne_true (show false = true from h)).elim
 all_goals rfl
noncomputable def wrote (H : AH) (b : Pos) (o : Nat) (vs l : List AV) (ty : Nat) (root : Pos) (ab g birth : Nat) : AH :=
 (H.kill b root (ab + o) (ab + o + vs.length)).setB b (some (.cells (over o vs l) ty root ab g birth))
theorem write_ok {β : Type} {b : Pos} {o : Nat} {vs : List AV} {k : AH → R β} {r : β} (h : H.write lim b o vs k = .ok r) :
 ∃ l ty root ab g birth, PT.get b H.bl = some (.cells l ty root ab g birth) ∧ lim ≤ birth ∧ o + vs.length ≤ l.length ∧ k (wrote H b o vs l ty root ab g birth) = .ok r := by
 obtain ⟨l, ty, root, ab, g, birth, h1, h2⟩ := cells_ok h
 rcases bool_ok h2 with ⟨h3, h4⟩ | ⟨_, h4⟩
 ·obtain ⟨h5, h6⟩ := lset_ok h4
  refine ⟨l, ty, root, ab, g, birth, h1, ble_of h3, h5, ?_⟩
  unfold wrote
  rw [← llen_eq]
  exact h6
 ·cases h4
section
variable {b : Pos} {o : Nat} {vs l : List AV} {ty : Nat} {root : Pos} {ab g birth : Nat}
theorem wrote_nx : (wrote H b o vs l ty root ab g birth).nx = H.nx := by rw [wrote, setB_nx, kill_nx]
theorem wrote_cnt : (wrote H b o vs l ty root ab g birth).cnt = H.cnt := by rw [wrote, setB_cnt, kill_cnt]
theorem wrote_fam : (wrote H b o vs l ty root ab g birth).fam = H.fam := by rw [wrote, setB_fam, kill_fam]
theorem wrote_bl (x : Pos) : (x = b ∧ PT.get x (wrote H b o vs l ty root ab g birth).bl = some (.cells (over o vs l) ty root ab g birth)) ∨
 (x ≠ b ∧ PT.get x (wrote H b o vs l ty root ab g birth).bl = none ∧ Hit H.bl x (ab + o) (ab + o + vs.length) ∧ ∃ ids, PT.get root H.fam = some ids ∧ x ∈ ids) ∨
 (x ≠ b ∧ PT.get x (wrote H b o vs l ty root ab g birth).bl = PT.get x H.bl ∧ ∀ ids, PT.get root H.fam = some ids → x ∈ ids → ¬ Hit H.bl x (ab + o) (ab + o + vs.length)) := by
 unfold wrote
 by_cases e : x = b
 ·exact .inl ⟨e, by rw [setB_bl, if_pos e]⟩
 ·rcases kill_bl H b root (ab + o) (ab + o + vs.length) x with ⟨h1, h2, h3, h4⟩ | ⟨h1, h2⟩
  ·exact .inr (.inl ⟨e, by rw [setB_bl, if_neg e]; exact h1, h3, h4⟩)
  ·exact .inr (.inr ⟨e, by rw [setB_bl, if_neg e]; exact h1, fun ids hi hx => h2 ids hi hx e⟩)
theorem wrote_old (hb : PT.get b H.bl = some (.cells l ty root ab g birth)) {x : Pos} {ox : AObj} (h : PT.get x (wrote H b o vs l ty root ab g birth).bl = some ox) :
 ∃ oy, PT.get x H.bl = some oy ∧ oy.birth = ox.birth ∧ (x ≠ b → oy = ox) ∧ (x = b → ox = .cells (over o vs l) ty root ab g birth) := by
 rcases wrote_bl (H := H) (b := b) (o := o) (vs := vs) (l := l) (ty := ty) (root := root) (ab := ab) (g := g) (birth := birth) x with ⟨e, h1⟩ | ⟨e, h1, _⟩ | ⟨e, h1, _⟩
 ·subst e
  rw [h1] at h
  cases h
  exact ⟨_, hb, rfl, fun e => absurd rfl e, fun _ => rfl⟩
 ·rw [h1] at h; cases h
 ·rw [h1] at h; exact ⟨ox, h, rfl, fun _ => rfl, fun e' => absurd e' e⟩
theorem Wf.wrote (h : Wf lim H) (hb : PT.get b H.bl = some (.cells l ty root ab g birth)) : Wf lim (wrote H b o vs l ty root ab g birth) := by
 refine ⟨fun x ox hx => ?_, fun x l1 ty1 root1 ab1 g1 birth1 hx => ?_, fun r ids hi => ?_, fun r ids hi x hx => ⟨?_, fun ox ho => ?_⟩, fun r ids hi x hx y hy ox oy ho hoy hl => ?_⟩
 ·obtain ⟨oy, h1, h2, _⟩ := wrote_old hb hx
  rw [wrote_nx, wrote_cnt, ← h2]
  exact h.lt x oy h1
 ·rw [wrote_fam]
  obtain ⟨oy, h1, h2, h3, h4⟩ := wrote_old hb hx
  by_cases e : x = b
  ·subst e
   cases h4 rfl
   exact h.root x _ _ _ _ _ _ hb
  ·rw [h3 e] at h1
   exact h.root x _ _ _ _ _ _ h1
 ·rw [wrote_fam] at hi; exact h.rootIn r ids hi
 ·rw [wrote_fam] at hi; rw [wrote_nx]; exact (h.mem r ids hi x hx).1
 ·rw [wrote_fam] at hi
  obtain ⟨oy, h1, h2, h3, h4⟩ := wrote_old hb ho
  by_cases e : x = b
  ·subst e
   obtain ⟨l1, ty1, ab1, g1, birth1, h5⟩ := (h.mem r ids hi x hx).2 _ hb
   cases h5
   exact ⟨_, _, _, _, _, h4 rfl⟩
  ·rw [h3 e] at h1
   exact (h.mem r ids hi x hx).2 ox h1
 ·rw [wrote_fam] at hi
  obtain ⟨ox', h1, h2, _⟩ := wrote_old hb ho
  obtain ⟨oy', h3, h4, _⟩ := wrote_old hb hoy
  rw [← h4]
  exact h.old r ids hi x hx y hy ox' oy' h1 h3 (by rw [h2]; exact hl)
theorem Keep.wrote (h : Wf lim H) (hb : PT.get b H.bl = some (.cells l ty root ab g birth)) (hl : lim ≤ birth) : Keep lim H (wrote H b o vs l ty root ab g birth) := by
 intro x ox hx hbi
 rcases wrote_bl (H := H) (b := b) (o := o) (vs := vs) (l := l) (ty := ty) (root := root) (ab := ab) (g := g) (birth := birth) x with ⟨e, h1⟩ | ⟨e, h1, h2, ids, h3, h4⟩ | ⟨e, h1, _⟩
 ·subst e
  rw [hb] at hx
  cases hx
  exact absurd hbi (by simpa [AObj.birth] using hl)
 ·have hbm : b ∈ ids := by
   rcases h.root b l ty root ab g birth hb with e' | ⟨ids', e1, e2⟩
   ·rw [← e']; exact h.rootIn root ids h3
   ·rw [h3] at e1; cases e1; exact e2
  have := h.old root ids h3 b hbm x h4 _ ox hb hx hl
  omega
 ·rw [h1]; exact hx
theorem Rel.wrote (h : Rel ri m N D lim B H w) (hD : D b) (hb : PT.get b H.bl = some (.cells l ty root ab g birth)) (ho : o + vs.length ≤ l.length) (hv : ∀ x ∈ vs, sc x = true ∧ okV m N x) :
 Rel ri m N D lim B (wrote H b o vs l ty root ab g birth) (w.setCells (m.ad b) (m.off b + o) (concL m vs)) := by
 have hob := h.obj b _ hD hb
 obtain ⟨cs, fz, c1, c2, c3, c4, c5⟩ := hob
 obtain ⟨cs', d1, d2, d3⟩ := setCells_heap (m.ad b) (concL m vs) (m.off b + o) w cs ty fz c1
 have hlv : (concL m vs).length = vs.length := by rw [concL_eq]; simp
 rw [hlv] at d3
 have hcs : ∀ i x, l[i]? = some x → m.off b + i < cs.size := fun i x hx => (Array.getElem?_eq_some_iff.1 (c2 i x hx)).1
 refine ⟨fun x hx => by rw [wrote_nx]; exact h.lt x hx, h.sub, fun x ox hx hox => ?_, fun x ox hx hox hl => ?_, fun x y ox oy hx hy hox hoy hne had => ?_, h.wf.wrote hb, by rw [setCells_size]; exact h.base⟩
 ·rcases wrote_bl (H := H) (b := b) (o := o) (vs := vs) (l := l) (ty := ty) (root := root) (ab := ab) (g := g) (birth := birth) x with ⟨e, h1⟩ | ⟨e, h1, _⟩ | ⟨e, h1, h2⟩
  ·subst e
   rw [h1] at hox
   cases hox
   refine ⟨cs', fz, d1, fun i y hy => ?_, fun y hy => ?_, fun i hi => c4 i (by omega), fun hg => ?_⟩
   ·rw [over_get ho] at hy
    have hi : i < l.length := by
     split at hy
     ·omega
     ·exact (List.getElem?_eq_some_iff.1 hy).1
    have hsz := hcs i _ (List.getElem?_eq_getElem hi)
    rw [d3 _ hsz]
    split at hy
    ·rename_i hc
     rw [if_pos (by omega), show m.off x + i - (m.off x + o) = i - o from by omega, concL_eq, List.getElem?_map, hy]
     rfl
    ·rename_i hc
     rw [if_neg (by omega)]
     exact c2 i y hy
   ·unfold over at hy
    rcases List.mem_append.1 hy with hy | hy
    ·rcases List.mem_append.1 hy with hy | hy
     ·exact c3 y (List.mem_of_mem_take hy)
     ·exact hv y hy
    ·exact c3 y (List.mem_of_mem_drop hy)
   ·rw [over_length ho, d2]; exact c5 hg
  ·rw [h1] at hox; cases hox
  ·rw [h1] at hox
   have hobx := h.obj x ox hx hox
   by_cases had : m.ad x = m.ad b
   ·obtain ⟨l1, ty1, root1, ab1, g1, birth1, l2, ty2, ab2, g2, birth2, f1, f2, f3⟩ := h.apart x b ox _ hx hD hox hb e had
    rw [hb] at f2
    cases f2
    rw [hox] at f1
    cases f1
    have hids : ∃ ids, PT.get root H.fam = some ids ∧ x ∈ ids := by
     rcases h.wf.root x _ _ _ _ _ _ hox with e1 | h5
     ·rcases h.wf.root b _ _ _ _ _ _ hb with e2 | ⟨ids, h6, h7⟩
      ·exact absurd (e1.symm.trans e2) e
      ·exact ⟨ids, h6, by rw [← e1]; exact h.wf.rootIn root ids h6⟩
     ·exact h5
    obtain ⟨ids, i1, i2⟩ := hids
    have hnot := h2 ids i1 i2
    obtain ⟨csx, fzx, x1, x2, x3, x4, x5⟩ := hobx
    rw [had, c1] at x1
    cases x1
    refine ⟨cs', fz, by rw [had]; exact d1, fun i y hy => ?_, x3, fun i hi => x4 i (by omega), fun hg => by rw [d2]; exact x5 hg⟩
    have hi := (List.getElem?_eq_some_iff.1 hy).1
    have hsz : m.off x + i < cs.size := (Array.getElem?_eq_some_iff.1 (x2 i y hy)).1
    rw [d3 _ hsz, if_neg ?_]
    ·exact x2 i y hy
    ·intro hc
     refine hnot ⟨l1, _, root, ab1, g1, birth1, hox, ?_, ?_⟩ <;> omega
   ·exact hobx.keep (h.sub x hx) (Agree.refl _ _) (fun _ y => y) (setCells_other _ _ _ _ _ had)
 ·obtain ⟨oy, h1, h2, _⟩ := wrote_old hb hox
  exact h.perm x oy hx h1 (by rw [h2]; exact hl)
 ·obtain ⟨ox', h1, h2, h3, h4⟩ := wrote_old hb hox
  obtain ⟨oy', k1, k2, k3, k4⟩ := wrote_old hb hoy
  obtain ⟨l1, ty1, root1, ab1, g1, birth1, l2, ty2, ab2, g2, birth2, f1, f2, f3⟩ := h.apart x y ox' oy' hx hy h1 k1 hne had
  rw [h1] at f1
  rw [k1] at f2
  cases f1
  cases f2
  by_cases e : x = b
  ·subst e
   have e2 : y ≠ x := fun e' => hne e'.symm
   rw [hb] at h1
   cases h1
   rw [h4 rfl] at hox
   rw [← k3 e2] at hoy
   exact ⟨_, _, _, _, _, _, _, _, _, _, _, hox, hoy, f3⟩
  ·rw [← h3 e] at hox
   by_cases e2 : y = b
   ·subst e2
    rw [hb] at k1
    cases k1
    rw [k4 rfl] at hoy
    exact ⟨_, _, _, _, _, _, _, _, _, _, _, hox, hoy, f3⟩
   ·rw [← k3 e2] at hoy
    exact ⟨_, _, _, _, _, _, _, _, _, _, _, hox, hoy, f3⟩
theorem run_wrote {P : Program} (h : LObj ri m N b w (.cells l ty root ab g birth)) (ho : o + vs.length ≤ l.length) (hv : ∀ x ∈ vs, sc x = true) :
 (storeCells ⟨m.ad b, m.off b + o, none⟩ (concL m vs)).run P w = .ok () (w.setCells (m.ad b) (m.off b + o) (concL m vs)) := by
 have hlv : (concL m vs).length = vs.length := by rw [concL_eq]; simp
 have := run_storeCells_cells (P := P) (m.ad b) (m.off b + o) (concL m vs) 0 w (fun j hj => ?_) (fun j hj => ?_) (fun v hvm => ?_)
 ·simpa using this
 ·rw [hlv] at hj
  rw [show m.off b + o + 0 + j = m.off b + (o + j) from by omega, cell_of h (List.getElem?_eq_getElem (by omega : o + j < l.length))]
  rfl
 ·rw [hlv] at hj
  rw [show m.off b + o + 0 + j = m.off b + (o + j) from by omega]
  exact frozen_of h (by omega)
 ·rw [concL_eq] at hvm
  obtain ⟨x, hx, rfl⟩ := List.mem_map.1 hvm
  exact sc_oneCell (hv x hx)
end
end Av
end
section
set_option linter.unusedSimpArgs false
namespace Av
open Go Go.RowKit
def Good (e : Operand → Option AO) (ρ : Operand → Value) (m : M) (N : Pos → Prop) (L : List AV) (T : PT AV) : Prop := (∀ x x', e x = some x' → ρ x = conc m (x'.ev L T) ∧ okV m N (x'.ev L T)) ∧ ∀ c, ρ (.const c) = c
def VSnd (P : Program) (e : Operand → Option AO) (op : Op) (o : VOp) : Prop :=
 ∀ (ri : Nat → Option RInfo) (m : M) (N : Pos → Prop) (lim B : Nat) (H : AH) (w : World) (ρ : Operand → Value) (L : List AV) (T : PT AV), Rel ri m N N lim B H w → Good e ρ m N L T → ∀ (k : AV → R Out) (r : Out), o L T H k = .ok r →
  ∃ v, k v = .ok r ∧ okV m N v ∧ ∀ oper : Oper, oper.op = op → (execOp ρ oper).run P w = .ok (.value (conc m v)) w
variable {P : Program} {e : Operand → Option AO} {ρ : Operand → Value} {m : M} {N : Pos → Prop} {L : List AV} {T : PT AV}
theorem Good.at (h : Good e ρ m N L T) {x : Operand} {x' : AO} (hx : e x = some x') : ρ x = conc m (x'.ev L T) := (h.1 x x' hx).1
theorem Good.ok (h : Good e ρ m N L T) {x : Operand} {x' : AO} (hx : e x = some x') : okV m N (x'.ev L T) := (h.1 x x' hx).2
theorem opds_ok (h : Good e ρ m N L T) : ∀ {xs : List Operand} {ys : List AO}, opds e xs = some ys → xs.map ρ = concL m (evs L T ys) ∧ okL m N (evs L T ys)
 | [], ys, hy => by simp only [opds, Option.some.injEq] at hy; subst hy; exact ⟨rfl, trivial⟩
 | x :: xs, ys, hy => by
   simp only [opds] at hy
   split at hy
   ·rename_i a r h1 h2
    cases hy
    obtain ⟨i1, i2⟩ := opds_ok h h2
    exact ⟨by rw [List.map_cons, h.at h1, i1]; rfl, h.ok h1, i2⟩
   ·cases hy
theorem szT_info {t : Nat} (h : szT P t ≠ 0) : ∃ i, P.info? t = some i ∧ i.size = szT P t := by
 unfold szT at *
 cases hi : P.info? t with
 | none => rw [hi] at h; exact absurd rfl h
 | some i => exact ⟨i, rfl, rfl⟩
theorem run_sizeOf {t : Nat} (h : szT P t ≠ 0) (w : World) : (Go.sizeOf t).run P w = .ok (szT P t) w := by
 obtain ⟨i, h1, h2⟩ := szT_info h
 simp [Go.sizeOf, typeInfo, h1, h2]
theorem run_isAggT {t : Nat} {d : TypeDesc} (h : P.underlying t = some d) (w : World) : (isAgg t).run P w = .ok (isAggT P t) w := by
 unfold isAgg isAggT
 rw [h]
 simp only [Sem.run_bind, run_underlying h, Result.andThen_ok]
 cases d <;> rfl
theorem agg_info {t : Nat} (h : isAggT P t = true) : ∃ i, P.info? t = some i ∧ i.size = szT P t := by
 unfold isAggT at h
 unfold szT
 cases hi : P.info? t with
 | none => unfold Program.underlying at h; rw [hi] at h; cases h
 | some i => exact ⟨i, rfl, rfl⟩
theorem run_sizeOf' {t : Nat} (h : isAggT P t = true) (w : World) : (Go.sizeOf t).run P w = .ok (szT P t) w := by
 obtain ⟨i, h1, h2⟩ := agg_info h
 simp [Go.sizeOf, typeInfo, h1, h2]
/-! ### one by one -/
theorem snd_mv {x : Operand} {x' : AO} (hx : e x = some x') : VSnd P e (.move x) (oMv x') := fun ri m N lim B H w ρ L T hR hg k r h =>
 ⟨_, h, hg.ok hx, fun oper ho => by unfold execOp; rw [ho]; simp only [hg.at hx]; rfl⟩
theorem snd_as {x : Operand} {x' : AO} (hx : e x = some x') : VSnd P e (.assign x) (oMv x') := fun ri m N lim B H w ρ L T hR hg k r h =>
 ⟨_, h, hg.ok hx, fun oper ho => by unfold execOp; rw [ho]; simp only [hg.at hx]; rfl⟩
theorem snd_pick {c a b : Operand} {c' a' b' : AO} (hc : e c = some c') (ha : e a = some a') (hb : e b = some b') : VSnd P e (.pick c a b) (oPick c' a' b') := fun ri m N lim B H w ρ L T hR hg k r h => by
 rcases AV.unBool_ok h with ⟨t, ht, h⟩ | ⟨_, h⟩
 ·have hc1 := hg.at hc
  rw [ht] at hc1
  rcases bool_ok h with ⟨h1, h2⟩ | ⟨h1, h2⟩ <;> subst h1
  ·exact ⟨_, h2, hg.ok ha, fun oper ho => by unfold execOp; rw [ho]; simp [hc1, hg.at ha, conc, asBool]⟩
  ·exact ⟨_, h2, hg.ok hb, fun oper ho => by unfold execOp; rw [ho]; simp [hc1, hg.at hb, conc, asBool]⟩
 ·cases h
theorem snd_load1 {t : Nat} {d : TypeDesc} {x : Operand} {x' : AO} (hd : P.underlying t = some d) (hagg : isAggT P t = false) (hx : e x = some x') : VSnd P e (.load t x) (oLoad1 x') := fun ri m N lim B H w ρ L T hR hg k r h => by
 rcases AV.unPtr_ok h with ⟨b, o, hp, h⟩ | ⟨_, h⟩
 ·have hx1 := hg.at hx
  have hN := hg.ok hx
  rw [hp] at hx1 hN
  obtain ⟨l, ty, root, ab, g, birth, v, h1, h2, h3⟩ := read1_ok h
  have hob := hR.obj b _ hN h1
  refine ⟨v, h3, ?_, fun oper ho => ?_⟩
  ·obtain ⟨cs, fz, _, _, c3, _⟩ := hob
   exact (c3 v (List.mem_of_getElem? h2)).2
  ·unfold execOp
   rw [ho]
   simp [hx1, conc, Instr.loadAt, Instr.sureAddr, loadVar, run_isAggT hd, hagg, cell_of hob h2]
 ·cases h
theorem snd_loadN {t : Nat} {d : TypeDesc} {x : Operand} {x' : AO} (hd : P.underlying t = some d) (hagg : isAggT P t = true) (hx : e x = some x') : VSnd P e (.load t x) (oLoadN (szT P t) x') := fun ri m N lim B H w ρ L T hR hg k r h => by
 rcases AV.unPtr_ok h with ⟨b, o, hp, h⟩ | ⟨_, h⟩
 ·have hx1 := hg.at hx
  have hN := hg.ok hx
  rw [hp] at hx1 hN
  obtain ⟨l, ty, root, ab, g, birth, h1, _, h3, h4⟩ := read_ok h
  have hob := hR.obj b _ hN h1
  refine ⟨_, h3, ?_, fun oper ho => ?_⟩
  ·obtain ⟨cs, fz, _, _, c3, _⟩ := hob
   refine ⟨(okL_iff _ _ _).2 fun y hy => (c3 y (List.mem_of_mem_drop (List.mem_of_mem_take hy))).2, fun y hy => (c3 y (List.mem_of_mem_drop (List.mem_of_mem_take hy))).1⟩
  ·unfold execOp
   rw [ho]
   simp [hx1, conc, Instr.loadAt, Instr.sureAddr, loadVar, run_isAggT hd, hagg, run_sizeOf' hagg, run_read hob h4]
 ·cases h
theorem snd_nil {x : Operand} {x' : AO} (hx : e x = some x') : VSnd P e (.nilCheck x) (oNil x') := fun ri m N lim B H w ρ L T hR hg k r h => by
 have hx1 := hg.at hx
 have hN := hg.ok hx
 rcases AV.unPtr_ok h with ⟨b, o, hp, h⟩ | ⟨_, h⟩
 ·rw [hp] at hx1 hN
  exact ⟨_, h, hN, fun oper ho => by unfold execOp; rw [ho]; simp [hx1, conc]⟩
 ·rcases AV.unFn_ok h with ⟨f, a, c, hp, h⟩ | ⟨l, hp, h⟩ | h
  ·rw [hp] at hx1 hN
   exact ⟨_, h, hN, fun oper ho => by unfold execOp; rw [ho]; simp [hx1, conc]⟩
  ·cases h
  ·cases h
/-! ### integers -/
theorem mkInt_ok {n : Int} {k : AV → R Out} {r : Out} (h : mkInt n k = .ok r) : k (.int n) = .ok r ∧ IntKind.i64.wrap n = n := by
 rcases bool_ok h with ⟨h1, h2⟩ | ⟨_, h2⟩
 ·exact ⟨h2, inI64_wrap h1⟩
 ·cases h2
def notEq (op : BinOp) : Prop := op ≠ .eql ∧ op ≠ .neq
theorem run_eqGuard {op : BinOp} (hne : notEq op) (t : Nat) (x y : Operand) (a b : Value) (w : World) : (eqGuard op t x y a b).run P w = .ok () w := by
 unfold eqGuard
 cases op <;> first | rfl | (exact absurd rfl hne.1) | (exact absurd rfl hne.2)
theorem snd_int2 {op : BinOp} {t ty : Nat} {x y : Operand} {x' y' : AO} {f : Int → Int → (AV → R Out) → R Out} (hne : notEq op) (hx : e x = some x') (hy : e y = some y')
 (hf : ∀ a b k r, f a b k = .ok r → ∃ v, k v = .ok r ∧ (∀ m N, okV m N v) ∧ ∀ m w, (binOp op t (.int .i64 a) (.int .i64 b)).run P w = .ok (conc m v) w) : VSnd P e (.binOp op t x y ty) (oInt2 f x' y') := fun ri m N lim B H w ρ L T hR hg k r h => by
 have hx1 := hg.at hx
 have hy1 := hg.at hy
 rcases AV.unInt_ok h with ⟨a, ha, h⟩ | ⟨_, h⟩
 ·rcases AV.unInt_ok h with ⟨b, hb, h⟩ | ⟨_, h⟩
  ·rw [ha] at hx1
   rw [hb] at hy1
   obtain ⟨v, h1, h2, h3⟩ := hf a b k r h
   exact ⟨v, h1, h2 m N, fun oper ho => by unfold execOp; rw [ho]; simp [hx1, hy1, conc, run_eqGuard hne, h3 m w]⟩
  ·cases h
 ·cases h
theorem snd_sub {t ty : Nat} {x y : Operand} {x' y' : AO} (hx : e x = some x') (hy : e y = some y') : VSnd P e (.binOp .sub t x y ty) (oInt2 iSub x' y') :=
 snd_int2 ⟨by simp, by simp⟩ hx hy fun a b k r h => by
  obtain ⟨h1, h2⟩ := mkInt_ok h
  exact ⟨_, h1, fun _ _ => by simp [okV], fun m w => by simp [binOp, Op.intArith, h2, conc]⟩
theorem snd_mul {t ty : Nat} {x y : Operand} {x' y' : AO} (hx : e x = some x') (hy : e y = some y') : VSnd P e (.binOp .mul t x y ty) (oInt2 iMul x' y') :=
 snd_int2 ⟨by simp, by simp⟩ hx hy fun a b k r h => by
  obtain ⟨h1, h2⟩ := mkInt_ok h
  exact ⟨_, h1, fun _ _ => by simp [okV], fun m w => by simp [binOp, Op.intArith, h2, conc]⟩
theorem ieq_zero {b : Int} (h : ieq b 0 = false) : b ≠ 0 := by
 rw [ieq_iff] at h
 simpa using h
theorem snd_quo {t ty : Nat} {x y : Operand} {x' y' : AO} (hx : e x = some x') (hy : e y = some y') : VSnd P e (.binOp .quo t x y ty) (oInt2 iQuo x' y') :=
 snd_int2 ⟨by simp, by simp⟩ hx hy fun a b k r h => by
  rcases bool_ok h with ⟨_, h⟩ | ⟨h0, h⟩
  ·cases h
  ·obtain ⟨h1, h2⟩ := mkInt_ok h
   exact ⟨_, h1, fun _ _ => by simp [okV], fun m w => by simp [binOp, Op.intDiv, ieq_zero h0, h2, conc]⟩
theorem snd_rem {t ty : Nat} {x y : Operand} {x' y' : AO} (hx : e x = some x') (hy : e y = some y') : VSnd P e (.binOp .rem t x y ty) (oInt2 iRem x' y') :=
 snd_int2 ⟨by simp, by simp⟩ hx hy fun a b k r h => by
  rcases bool_ok h with ⟨_, h⟩ | ⟨h0, h⟩
  ·cases h
  ·exact ⟨_, h, fun _ _ => by simp [okV], fun m w => by simp [binOp, Op.intDiv, ieq_zero h0, conc]⟩
theorem snd_add {t ty : Nat} {x y : Operand} {x' y' : AO} (hx : e x = some x') (hy : e y = some y') : VSnd P e (.binOp .add t x y ty) (oAdd x' y') := fun ri m N lim B H w ρ L T hR hg k r h => by
 have hx1 := hg.at hx
 have hy1 := hg.at hy
 have hne : notEq .add := ⟨by simp, by simp⟩
 rcases AV.unInt_ok h with ⟨a, ha, h⟩ | ⟨_, h⟩
 ·rcases AV.unInt_ok h with ⟨b, hb, h⟩ | ⟨_, h⟩
  ·rw [ha] at hx1
   rw [hb] at hy1
   obtain ⟨h1, h2⟩ := mkInt_ok h
   rw [iadd_eq] at h2
   exact ⟨_, h1, by simp [okV], fun oper ho => by unfold execOp; rw [ho]; simp [hx1, hy1, conc, run_eqGuard hne, binOp, Op.intArith, h2, iadd_eq]⟩
  ·cases h
 ·rcases AV.unStr_ok h with ⟨a, ha, h⟩ | ⟨_, h⟩
  ·rcases AV.unStr_ok h with ⟨b, hb, h⟩ | ⟨_, h⟩
   ·rw [ha] at hx1
    rw [hb] at hy1
    rcases bool_ok h with ⟨h0, h⟩ | ⟨_, h⟩
    ·refine ⟨_, h, by simp [okV], fun oper ho => ?_⟩
     have hs : (a.length : Int) + (b.length : Int) ≤ 9223372036854775807 := by
      have : a.length + b.length ≤ maxNeed := ble_of h0
      unfold maxNeed at this
      omega
     have hm : IntKind.i64.max = 9223372036854775807 := by decide
     have hap : (⟨a.toArray⟩ : ByteArray) ++ ⟨b.toArray⟩ = ⟨(a ++ b).toArray⟩ := by
      apply ByteArray.ext
      simp
     unfold execOp
     rw [ho]
     simp [hx1, hy1, conc, run_eqGuard hne, binOp, Op.stringOp, ByteArray.size, hm, hs, hap]
    ·cases h
   ·cases h
  ·cases h
theorem cmp_run {op : BinOp} {g : Int → Int → Bool} (hc : (op = .lss ∧ g = cLss) ∨ (op = .leq ∧ g = cLeq) ∨ (op = .gtr ∧ g = cGtr) ∨ (op = .geq ∧ g = cGeq)) (t : Nat) (i : IntKind) (a b : Int) (w : World) :
 (binOp op t (.int i a) (.int i b)).run P w = .ok (.bool (g a b)) w := by
 rcases hc with ⟨rfl, rfl⟩ | ⟨rfl, rfl⟩ | ⟨rfl, rfl⟩ | ⟨rfl, rfl⟩
 ·simp only [binOp, Op.intCmp, ne_eq, not_true_eq_false, if_false, Sem.run_pure, cLss, bnot_eq, ile_iff]
  congr 2; rw [Bool.eq_iff_iff]; simp
 ·simp only [binOp, Op.intCmp, ne_eq, not_true_eq_false, if_false, Sem.run_pure, cLeq, ile_iff]
 ·simp only [binOp, Op.intCmp, ne_eq, not_true_eq_false, if_false, Sem.run_pure, cGtr, bnot_eq, ile_iff]
  congr 2; rw [Bool.eq_iff_iff]; simp
 ·simp only [binOp, Op.intCmp, ne_eq, not_true_eq_false, if_false, Sem.run_pure, cGeq, ile_iff]
theorem snd_cmp {op : BinOp} {g : Int → Int → Bool} (hc : (op = .lss ∧ g = cLss) ∨ (op = .leq ∧ g = cLeq) ∨ (op = .gtr ∧ g = cGtr) ∨ (op = .geq ∧ g = cGeq)) {t ty : Nat} {x y : Operand} {x' y' : AO} (hx : e x = some x') (hy : e y = some y') :
 VSnd P e (.binOp op t x y ty) (oCmp g x' y') := fun ri m N lim B H w ρ L T hR hg k r h => by
 have hx1 := hg.at hx
 have hy1 := hg.at hy
 have hne : notEq op := by rcases hc with ⟨rfl, _⟩ | ⟨rfl, _⟩ | ⟨rfl, _⟩ | ⟨rfl, _⟩ <;> exact ⟨by simp, by simp⟩
 rcases AV.unInt_ok h with ⟨a, ha, h⟩ | ⟨_, h⟩
 ·rcases AV.unInt_ok h with ⟨b, hb, h⟩ | ⟨_, h⟩
  ·rw [ha] at hx1
   rw [hb] at hy1
   exact ⟨_, h, by simp [okV], fun oper ho => by unfold execOp; rw [ho]; simp [hx1, hy1, conc, run_eqGuard hne, cmp_run hc]⟩
  ·cases h
 ·rcases AV.unIk_ok h with ⟨i, a, ha, h⟩ | ⟨_, h⟩
  ·rcases AV.unIk_ok h with ⟨j, b, hb, h⟩ | ⟨_, h⟩
   ·rw [ha] at hx1
    rw [hb] at hy1
    rcases bool_ok h with ⟨h0, h9⟩ | ⟨_, h9⟩
    ·have := knd_inj (beq_of h0)
     subst this
     exact ⟨_, h9, by simp [okV], fun oper ho => by unfold execOp; rw [ho]; simp [hx1, hy1, conc, run_eqGuard hne, cmp_run hc]⟩
    ·cases h9
   ·cases h
  ·cases h
end Av
end
section
set_option linter.unusedSimpArgs false
namespace Av
open Go Go.RowKit
variable {P : Program} {e : Operand → Option AO} {ρ : Operand → Value} {m : M} {N : Pos → Prop} {L : List AV} {T : PT AV}
theorem snd_not {t : Nat} {x : Operand} {x' : AO} (hx : e x = some x') : VSnd P e (.unOp .not t x) (oNot x') := fun ri m N lim B H w ρ L T hR hg k r h => by
 have hx1 := hg.at hx
 rcases AV.unBool_ok h with ⟨b, hb, h⟩ | ⟨_, h⟩
 ·rw [hb] at hx1
  exact ⟨_, h, by simp [okV], fun oper ho => by unfold execOp; rw [ho]; simp [hx1, conc, Op.unary, bnot_eq]⟩
 ·cases h
theorem snd_neg {t : Nat} {x : Operand} {x' : AO} (hx : e x = some x') : VSnd P e (.unOp .neg t x) (oNeg x') := fun ri m N lim B H w ρ L T hR hg k r h => by
 have hx1 := hg.at hx
 rcases AV.unInt_ok h with ⟨a, ha, h⟩ | ⟨_, h⟩
 ·rw [ha] at hx1
  obtain ⟨h1, h2⟩ := mkInt_ok h
  exact ⟨_, h1, by simp [okV], fun oper ho => by unfold execOp; rw [ho]; simp only [hx1, conc, Op.unary, Op.intArith, h2]; rfl⟩
 ·cases h
theorem snd_conv {s d : Nat} {i k : IntKind} {x : Operand} {x' : AO} (hs : P.underlying s = some (.int i)) (hd : P.underlying d = some (.int k)) (hx : e x = some x') : VSnd P e (.convert s d x) (oConv k x') := fun ri m N lim B H w ρ L T hR hg κ r h => by
 have hx1 := hg.at hx
 rcases AV.unInt_ok h with ⟨a, ha, h⟩ | ⟨_, h⟩
 ·rw [ha] at hx1
  rcases bool_ok h with ⟨hk, h⟩ | ⟨hk, h⟩
  ·rcases bool_ok h with ⟨hi, h8⟩ | ⟨_, h⟩
   ·have : k = .i64 := knd_inj (beq_of hk)
    subst this
    exact ⟨_, h8, by simp [okV], fun oper ho => by unfold execOp; rw [ho]; simp [hx1, conc, convert, run_underlying hs, run_underlying hd, Conv.intToInt, inI64_wrap hi]⟩
   ·cases h
  ·exact ⟨_, h, by simp [okV], fun oper ho => by unfold execOp; rw [ho]; simp [hx1, conc, convert, run_underlying hs, run_underlying hd, Conv.intToInt]⟩
 ·rcases AV.unIk_ok h with ⟨j, a, ha, h⟩ | ⟨_, h⟩
  ·rw [ha] at hx1
   rcases bool_ok h with ⟨hk, h8⟩ | ⟨hk, h⟩
   ·have : k = .i64 := knd_inj (beq_of hk)
    subst this
    exact ⟨_, h8, by simp [okV], fun oper ho => by unfold execOp; rw [ho]; simp [hx1, conc, convert, run_underlying hs, run_underlying hd, Conv.intToInt]⟩
   ·exact ⟨_, h, by simp [okV], fun oper ho => by unfold execOp; rw [ho]; simp [hx1, conc, convert, run_underlying hs, run_underlying hd, Conv.intToInt]⟩
  ·cases h
theorem snd_same {s d : Nat} {x : Operand} {x' : AO} (hs : P.underlying s = some .string) (hd : P.underlying d = some .string) (hx : e x = some x') : VSnd P e (.convert s d x) (oSame x') := fun ri m N lim B H w ρ L T hR hg κ r h => by
 have hx1 := hg.at hx
 rcases AV.unStr_ok h with ⟨a, ha, h⟩ | ⟨_, h⟩
 ·rw [ha] at hx1
  exact ⟨_, h, by simp [okV], fun oper ho => by unfold execOp; rw [ho]; simp [hx1, conc, convert, run_underlying hs, run_underlying hd]⟩
 ·cases h
theorem snd_mkI {t : Nat} {d : TypeDesc} {x : Operand} {x' : AO} (hd : P.underlying t = some d) (hi : ∀ ms, d ≠ .interface ms) (hx : e x = some x') : VSnd P e (.makeInterface t x) (oMkI t x') := fun ri m N lim B H w ρ L T hR hg κ r h => by
 have hx1 := hg.at hx
 refine ⟨_, h, hg.ok hx, fun oper ho => ?_⟩
 unfold execOp
 rw [ho]
 simp only [Instr.makeInterface, Sem.run_bind, run_underlying hd, Result.andThen_ok]
 cases d <;> first | (exact absurd rfl (hi _)) | simp [hx1, conc]
theorem snd_mkFn {f : Nat} {a c : Array Operand} {a' c' : List AO} (ha : opds e a.toList = some a') (hc : opds e c.toList = some c') : VSnd P e (.makeFunc (.func f) a c) (oMkFn f a' c') := fun ri m N lim B H w ρ L T hR hg κ r h => by
 obtain ⟨a1, a2⟩ := opds_ok hg ha
 obtain ⟨c1, c2⟩ := opds_ok hg hc
 refine ⟨_, h, ⟨a2, c2⟩, fun oper ho => ?_⟩
 have e1 : a.map ρ = (concL m (evs L T a')).toArray := by rw [← a1]; apply Array.ext'; simp
 have e2 : c.map ρ = (concL m (evs L T c')).toArray := by rw [← c1]; apply Array.ext'; simp
 unfold execOp
 rw [ho]
 simp [Instr.makeFunc, e1, e2, conc]
theorem snd_fad {t f : Nat} {fs : Array Field} {fd : Field} {x : Operand} {x' : AO} (hd : P.underlying t = some (.struct fs)) (hf : fs[f]? = some fd) (hz : szT P fd.type ≠ 0) (hx : e x = some x') : VSnd P e (.fieldAddr t x f) (oFad fd.offset x') := fun ri m N lim B H w ρ L T hR hg κ r h => by
 have hx1 := hg.at hx
 have hN := hg.ok hx
 rcases AV.unPtr_ok h with ⟨b, o, hp, h⟩ | ⟨_, h⟩
 ·rw [hp] at hx1 hN
  refine ⟨_, h, hN, fun oper ho => ?_⟩
  unfold execOp
  rw [ho]
  simp only [Instr.fieldAt, Sem.run_bind, run_underlying hd, Result.andThen_ok, hf, hx1, conc, Instr.sureAddr, Sem.run_pure, fieldPlace, run_sizeOf hz, hz, if_false, addr_add, Nat.add_assoc]
  rfl
 ·cases h
theorem run_part1 {t off : Nat} {d : TypeDesc} {l : List AV} {v : AV} (hd : P.underlying t = some d) (ha : isAggT P t = false) (hv : l[off]? = some v) (w : World) : (part t (concL m l).toArray off).run P w = .ok (conc m v) w := by
 have : (concL m l).toArray[off]? = some (conc m v) := by rw [List.getElem?_toArray, concL_eq, List.getElem?_map, hv]; rfl
 simp [part, run_isAggT hd, ha, this]
theorem run_partN {t off : Nat} {d : TypeDesc} {l : List AV} (hd : P.underlying t = some d) (ha : isAggT P t = true) (w : World) :
 (part t (concL m l).toArray off).run P w = .ok (conc m (.agg ((l.drop off).take (szT P t)))) w := by
 simp only [part, Sem.run_bind, run_isAggT hd, ha, Result.andThen_ok, if_true, run_sizeOf' ha, Sem.run_pure, conc]
 congr 2
 apply Array.ext'
 simp [concL_eq, List.map_drop, List.map_take, List.extract_eq_take_drop]
theorem take_drop_mem {l : List AV} {off n : Nat} {x : AV} (h : x ∈ (l.drop off).take n) : x ∈ l := List.mem_of_mem_drop (List.mem_of_mem_take h)
theorem snd_fld1 {t f : Nat} {fs : Array Field} {fd : Field} {d : TypeDesc} {x : Operand} {x' : AO} (hu : P.underlying t = some (.struct fs)) (hf : fs[f]? = some fd) (hd : P.underlying fd.type = some d) (ha : isAggT P fd.type = false) (hx : e x = some x') :
 VSnd P e (.field t x f) (oFld1 fd.offset x') := fun ri m N lim B H w ρ L T hR hg κ r h => by
 have hx1 := hg.at hx
 have hN := hg.ok hx
 rcases AV.unAgg_ok h with ⟨l, hp, h⟩ | ⟨_, h⟩
 ·rw [hp] at hx1 hN
  obtain ⟨v, h1, h2⟩ := lnth_ok h
  refine ⟨v, h2, (okL_iff _ _ _).1 hN.1 v (List.mem_of_getElem? h1), fun oper ho => ?_⟩
  unfold execOp
  rw [ho]
  simp only [Instr.field, Sem.run_bind, run_underlying hu, Result.andThen_ok, hf, hx1, conc, asAgg, Sem.run_pure, run_part1 hd ha h1]
 ·cases h
theorem snd_fldN {t f : Nat} {fs : Array Field} {fd : Field} {d : TypeDesc} {x : Operand} {x' : AO} (hu : P.underlying t = some (.struct fs)) (hf : fs[f]? = some fd) (hd : P.underlying fd.type = some d) (ha : isAggT P fd.type = true) (hx : e x = some x') :
 VSnd P e (.field t x f) (oFldN fd.offset (szT P fd.type) x') := fun ri m N lim B H w ρ L T hR hg κ r h => by
 have hx1 := hg.at hx
 have hN := hg.ok hx
 rcases AV.unAgg_ok h with ⟨l, hp, h⟩ | ⟨_, h⟩
 ·rw [hp] at hx1 hN
  obtain ⟨h1, h2⟩ := ltake_ok h
  rw [ldrop_eq] at h1 h2
  refine ⟨_, h2, ⟨(okL_iff _ _ _).2 fun y hy => (okL_iff _ _ _).1 hN.1 y (take_drop_mem hy), fun y hy => hN.2 y (take_drop_mem hy)⟩, fun oper ho => ?_⟩
  unfold execOp
  rw [ho]
  simp only [Instr.field, Sem.run_bind, run_underlying hu, Result.andThen_ok, hf, hx1, asAgg, Sem.run_pure, run_partN hd ha, conc]
 ·cases h
theorem snd_ext {i : Nat} {x : Operand} {x' : AO} (hx : e x = some x') : VSnd P e (.extract x i) (oExt x' i) := fun ri m N lim B H w ρ L T hR hg κ r h => by
 have hx1 := hg.at hx
 have hN := hg.ok hx
 rcases AV.unTup_ok h with ⟨l, hp, h⟩ | h
 ·rw [hp] at hx1 hN
  obtain ⟨v, h1, h2⟩ := lnth_ok h
  refine ⟨v, h2, (okL_iff _ _ _).1 hN v (List.mem_of_getElem? h1), fun oper ho => ?_⟩
  have : (concL m l).toArray[i]? = some (conc m v) := by rw [List.getElem?_toArray, concL_eq, List.getElem?_map, h1]; rfl
  unfold execOp
  rw [ho]
  simp [hx1, conc, Instr.extract, this]
 ·cases h
theorem ble_succ {j n : Nat} (h : Nat.ble (Nat.succ j) n = true) : j < n := ble_of h
theorem snd_iad {t el : Nat} {x i : Operand} {x' i' : AO} (hu : P.underlying t = some (.slice el)) (hz : szT P el ≠ 0) (hx : e x = some x') (hi : e i = some i') : VSnd P e (.indexAddr t x i) (oIad (szT P el) x' i') := fun ri m N lim B H w ρ L T hR hg κ r h => by
 have hx1 := hg.at hx
 have hN := hg.ok hx
 have hi1 := hg.at hi
 obtain ⟨j, hj, h⟩ := asNat_ok h
 rw [hj] at hi1
 have go : ∀ (b : Pos) (o len cap : Nat), ρ x = .slice (some ⟨m.ad b, m.off b + o, none⟩) len cap → j < len → ∀ oper : Oper, oper.op = .indexAddr t x i →
  (execOp ρ oper).run P w = .ok (.value (conc m (.ptr b (Nat.add o (Nat.mul j (szT P el)))))) w := fun b o len cap hxv hlt oper ho => by
  unfold execOp
  rw [ho]
  simp [Instr.indexAt, hxv, hi1, conc, asIntOf, run_underlying hu, hlt, run_sizeOf hz, addr_add, Nat.add_assoc]
 rcases AV.unSl_ok h with ⟨_, h⟩ | ⟨b, o, len, cap, hp, h⟩ | ⟨b, o, len, cap, hp, h⟩ | h
 ·cases h
 ·rw [hp] at hx1 hN
  rcases bool_ok h with ⟨h0, h⟩ | ⟨_, h⟩
  ·exact ⟨_, h, hN, go b o len cap hx1 (ble_succ h0)⟩
  ·cases h
 ·rw [hp] at hx1 hN
  rcases bool_ok h with ⟨h0, h⟩ | ⟨_, h⟩
  ·exact ⟨_, h, hN.1, go b o len _ hx1 (ble_succ h0)⟩
  ·cases h
 ·cases h
theorem snd_iadA {t n el : Nat} {x i : Operand} {x' i' : AO} (hu : P.underlying t = some (.array n el)) (hz : szT P el ≠ 0) (hx : e x = some x') (hi : e i = some i') : VSnd P e (.indexAddr t x i) (oIadA n (szT P el) x' i') := fun ri m N lim B H w ρ L T hR hg κ r h => by
 have hx1 := hg.at hx
 have hN := hg.ok hx
 have hi1 := hg.at hi
 obtain ⟨j, hj, h⟩ := asNat_ok h
 rw [hj] at hi1
 rcases AV.unPtr_ok h with ⟨b, o, hp, h⟩ | ⟨_, h⟩
 ·rw [hp] at hx1 hN
  rcases bool_ok h with ⟨h0, h⟩ | ⟨_, h⟩
  ·refine ⟨_, h, hN, fun oper ho => ?_⟩
   have hlt := ble_succ h0
   unfold execOp
   rw [ho]
   simp [Instr.indexAt, hx1, hi1, conc, asIntOf, Instr.sureAddr, run_underlying hu, hlt, run_sizeOf hz, addr_add, Nat.add_assoc]
  ·cases h
 ·cases h
theorem snd_idS {t : Nat} {x i : Operand} {x' i' : AO} (hu : P.underlying t = some .string) (hx : e x = some x') (hi : e i = some i') : VSnd P e (.index t x i) (oIdS x' i') := fun ri m N lim B H w ρ L T hR hg κ r h => by
 have hx1 := hg.at hx
 have hi1 := hg.at hi
 obtain ⟨j, hj, h⟩ := asNat_ok h
 rw [hj] at hi1
 rcases AV.unStr_ok h with ⟨l, hl, h⟩ | ⟨_, h⟩
 ·rw [hl] at hx1
  cases hc : l[j]? with
  | none => rw [hc] at h; cases h
  | some c =>
    rw [hc] at h
    refine ⟨_, h, by simp [okV], fun oper ho => ?_⟩
    have hlt := (List.getElem?_eq_some_iff.1 hc).1
    have hg' : (⟨l.toArray⟩ : ByteArray)[j]? = some c := by
     rw [getElem?_pos _ j (show j < l.toArray.size by simpa using hlt)]
     exact congrArg some (List.getElem?_eq_some_iff.1 hc).2
    unfold execOp
    rw [ho]
    simp [Instr.index, hx1, hi1, conc, asIntOf, run_underlying hu, hg']
 ·cases h
theorem snd_idA {t n el : Nat} {d : TypeDesc} {x i : Operand} {x' i' : AO} (hu : P.underlying t = some (.array n el)) (hz : szT P el ≠ 0) (hd : P.underlying el = some d) (hx : e x = some x') (hi : e i = some i') :
 VSnd P e (.index t x i) (if isAggT P el then oIdAN n (szT P el) x' i' else oIdA1 n (szT P el) x' i') := fun ri m N lim B H w ρ L T hR hg κ r h => by
 have hx1 := hg.at hx
 have hN := hg.ok hx
 have hi1 := hg.at hi
 by_cases ha : isAggT P el = true
 ·rw [if_pos ha] at h
  obtain ⟨j, hj, h⟩ := asNat_ok h
  rw [hj] at hi1
  rcases AV.unAgg_ok h with ⟨l, hp, h⟩ | ⟨_, h⟩
  ·rw [hp] at hx1 hN
   rcases bool_ok h with ⟨h0, h⟩ | ⟨_, h⟩
   ·obtain ⟨h1, h2⟩ := ltake_ok h
    rw [ldrop_eq] at h1 h2
    refine ⟨_, h2, ⟨(okL_iff _ _ _).2 fun y hy => (okL_iff _ _ _).1 hN.1 y (take_drop_mem hy), fun y hy => hN.2 y (take_drop_mem hy)⟩, fun oper ho => ?_⟩
    have hlt := ble_succ h0
    have hp1 := run_partN (m := m) (off := Nat.mul j (szT P el)) (l := l) hd ha w
    unfold execOp
    rw [ho]
    simp only [Instr.index, hx1, hi1, conc, asIntOf, Sem.run_bind, Sem.run_pure, Result.andThen_ok, run_underlying hu, run_sizeOf hz]
    rw [if_pos ⟨by omega, by omega⟩]
    simp only [Sem.run_bind, run_sizeOf hz, Result.andThen_ok, Int.toNat_natCast]
    have hp2 : (part el (concL m l).toArray (j * szT P el)).run P w = _ := hp1
    rw [hp2]
    rfl
   ·cases h
  ·cases h
 ·have ha' : isAggT P el = false := by simpa using ha
  rw [if_neg ha] at h
  obtain ⟨j, hj, h⟩ := asNat_ok h
  rw [hj] at hi1
  rcases AV.unAgg_ok h with ⟨l, hp, h⟩ | ⟨_, h⟩
  ·rw [hp] at hx1 hN
   rcases bool_ok h with ⟨h0, h⟩ | ⟨_, h⟩
   ·obtain ⟨v, h1, h2⟩ := lnth_ok h
    refine ⟨v, h2, (okL_iff _ _ _).1 hN.1 v (List.mem_of_getElem? h1), fun oper ho => ?_⟩
    have hlt := ble_succ h0
    have hp2 : (part el (concL m l).toArray (j * szT P el)).run P w = _ := run_part1 hd ha' h1 w
    unfold execOp
    rw [ho]
    simp only [Instr.index, hx1, hi1, conc, asIntOf, Sem.run_bind, Sem.run_pure, Result.andThen_ok, run_underlying hu, run_sizeOf hz]
    rw [if_pos ⟨by omega, by omega⟩]
    simp only [Sem.run_bind, run_sizeOf hz, Result.andThen_ok, Int.toNat_natCast]
    rw [hp2]
    rfl
   ·cases h
  ·cases h
end Av
end
