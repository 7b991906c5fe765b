/- The abstract evaluator: what a Go function of the loaded program does, on values without memory (slices are lists), in continuation style into Prop. The abstract evaluator, second part: regions, code, calls; the least predicate that is closed under a step; it is closed. The few lemmas with which a function is walked. -/
import Derived.Calls
import Derived.Orders
import Derived.Laws.StructEq
set_option linter.unusedVariables false
set_option linter.unusedSimpArgs false
namespace Go.Proofs.Ytidkmoohgadjkaa.E
open Go
inductive PC where
  | v (x : Value)
  | sl (rows : List (List PC))
inductive C where
  | p (c : PC)
  | own (b : Nat)
  | ptr (b off : Nat)
  | ep (b k i off : Nat)
  | rp (cs : List PC)
  | fn (f : Nat) (caps : List Nat)
  | pf (f : Nat) (caps : List (List PC))
  | mp (b : Nat)
  | cp (rows : List (List PC))
  | junk
inductive Md where
  | op
  | ld
  | mv
inductive A where
  | one (c : C)
  | agg (cs : List C)
  | tup (l : List A)
inductive KK where
  | int (k : IntKind)
  | str
  | ints (k : IntKind) (n : Nat)
inductive Blk where
  | dead
  | box (cs : List C)
  | rows (k : Nat) (l : List (List PC))
  | nest (k o k' : Nat) (l : List (List PC))
  | hole (k o k' i : Nat) (l : List (List PC))
  | mp (kk : KK) (va : Bool) (es : List (List PC × List PC))
inductive TD where
  | int (k : IntKind) | bool | str | flt (k : FloatKind) | cplx (k : FloatKind) | ptr (e : Nat) | slice (e : Nat) | arr (n e : Nat) | struct (fs : List (Nat × Nat)) | map (k e : Nat) | iface | other
structure TI where
  d : TD
  sz : Nat
  bytes : Nat
  z : List Value
  eq : Bool
def TI.none : TI := ⟨.other, 0, 0, [], false⟩
section
variable {α β : Type}
noncomputable def nth (d : α) (l : List α) : Nat → α := @List.rec α (fun _ => Nat → α) (fun _ => d) (fun a _ ih n => @Nat.rec (fun _ => α) a (fun n _ => ih n) n) l
noncomputable def dropR (l : List α) : Nat → List α := @List.rec α (fun _ => Nat → List α) (fun _ => []) (fun a l ih n => @Nat.rec (fun _ => List α) (a :: l) (fun n _ => ih n) n) l
noncomputable def takeR (l : List α) : Nat → List α := @List.rec α (fun _ => Nat → List α) (fun _ => []) (fun a _ ih n => @Nat.rec (fun _ => List α) [] (fun n _ => a :: ih n) n) l
noncomputable def lenR (l : List α) : Nat := @List.rec α (fun _ => Nat) 0 (fun _ _ n => n + 1) l
noncomputable def mapR (f : α → β) (l : List α) : List β := @List.rec α (fun _ => List β) [] (fun a _ ih => f a :: ih) l
noncomputable def appR (l m : List α) : List α := @List.rec α (fun _ => List α) m (fun a _ ih => a :: ih) l
noncomputable def flatR (l : List (List α)) : List α := @List.rec (List α) (fun _ => List α) [] (fun a _ ih => appR a ih) l
noncomputable def repR (a : α) (n : Nat) : List α := @Nat.rec (fun _ => List α) [] (fun _ l => a :: l) n
noncomputable def splice (l : List α) : Nat → List α → List α := @List.rec α (fun _ => Nat → List α → List α) (fun _ _ => [])
  (fun a _ ih n new => @Nat.rec (fun _ => List α) (@List.rec α (fun _ => List α) (a :: ih 0 []) (fun x xs _ => x :: ih 0 xs) new) (fun n _ => a :: ih n new) n) l
noncomputable def allR (f : α → Bool) (l : List α) : Bool := @List.rec α (fun _ => Bool) true (fun a _ ih => @Bool.rec (fun _ => Bool) false ih (f a)) l
end
noncomputable def memN (b : Nat) (l : List Nat) : Bool := @List.rec Nat (fun _ => Bool) false (fun a _ ih => @Bool.rec (fun _ => Bool) ih true (Nat.beq a b)) l
noncomputable def idxN (l : List Nat) (b : Nat) : Nat → Option Nat := @List.rec Nat (fun _ => Nat → Option Nat) (fun _ => none) (fun a _ ih n => @Bool.rec (fun _ => Option Nat) (ih (n + 1)) (some n) (Nat.beq a b)) l
noncomputable def bcase (b : Bool) (x y : Prop) : Prop := @Bool.rec (fun _ => Prop) y x b
def litTab : List Nat := 0 :: 1 :: 2 :: 3 :: 4 :: 5 :: 6 :: 7 :: 8 :: 9 :: 10 :: 11 :: 12 :: 13 :: 14 :: 15 :: 16 :: 17 :: 18 :: 19 :: 20 :: 21 :: 22 :: 23 :: 24 :: 25 :: 26 :: 27 :: 28 :: 29 :: 30 :: 31 :: 32 :: 33 :: 34 :: 35 :: 36 :: 37 :: 38 :: 39 :: 40 :: []
noncomputable def natF (n : Nat) (k : Nat → Prop) : Prop :=
  @List.rec Nat (fun _ => Nat → Prop) (fun _ => k n) (fun a _ ih m => @Nat.rec (fun _ => Prop) (k a) (fun m _ => ih m) m) litTab n
section
variable {α β : Type}
noncomputable def mapF (f : α → (β → Prop) → Prop) (l : List α) : (List β → Prop) → Prop :=
  @List.rec α (fun _ => (List β → Prop) → Prop) (fun k => k []) (fun a _ ih k => f a fun b => ih fun l => k (b :: l)) l
noncomputable def appF (l m : List α) : (List α → Prop) → Prop :=
  @List.rec α (fun _ => (List α → Prop) → Prop) (fun k => k m) (fun a _ ih k => ih fun l => k (a :: l)) l
noncomputable def setF (v : α) (l : List α) : Nat → (List α → Prop) → Prop :=
  @List.rec α (fun _ => Nat → (List α → Prop) → Prop) (fun _ k => k []) (fun a l ih n k => @Nat.rec (fun _ => Prop) (k (v :: l)) (fun n _ => ih n fun l => k (a :: l)) n) l
end
noncomputable def pF (c : PC) (k : PC → Prop) : Prop := match c with | .v x => k (.v x) | .sl r => k (.sl r)
noncomputable def cF (c : C) (k : C → Prop) : Prop := match c with
  | .p c => pF c fun c => k (.p c)
  | .own b => natF b fun b => k (.own b)
  | .ptr b o => natF b fun b => natF o fun o => k (.ptr b o)
  | .ep b n i o => natF b fun b => natF o fun o => k (.ep b n i o)
  | .rp cs => mapF pF cs fun cs => k (.rp cs)
  | .fn f l => mapF natF l fun l => k (.fn f l)
  | .pf f l => k (.pf f l)
  | .mp b => natF b fun b => k (.mp b)
  | .cp r => k (.cp r)
  | .junk => k .junk
noncomputable def aF (a : A) (k : A → Prop) : Prop := match a with
  | .one c => cF c fun c => k (.one c)
  | .agg l => mapF cF l fun l => k (.agg l)
  | .tup l => k (.tup l)
noncomputable def bF (b : Blk) (k : Blk → Prop) : Prop := match b with
  | .dead => k .dead
  | .box l => mapF cF l fun l => k (.box l)
  | .rows n l => k (.rows n l)
  | .nest n o n' l => k (.nest n o n' l)
  | .hole n o n' i l => k (.hole n o n' i l)
  | .mp a b es => k (.mp a b es)
def ltI (a b : Int) : Bool := decide (a < b)
def leI (a b : Int) : Bool := decide (a ≤ b)
def eqI (a b : Int) : Bool := a == b
def andB (a b : Bool) : Bool := a && b
def inB (j : Int) (n : Nat) : Bool := decide (0 ≤ j ∧ j < n)
def inC (j : Int) (n : Nat) : Bool := decide (0 ≤ j ∧ j ≤ n)
def wr (k : IntKind) (a : Int) : Int := k.wrap a
def tdivI (a b : Int) : Int := a.tdiv b
def tmodI (a b : Int) : Int := a.tmod b
def bitsI (op : BinOp) (k : IntKind) (x y : Int) : Int :=
  let a := BitVec.ofInt k.bits x
  let b := BitVec.ofInt k.bits y
  k.wrap (match op with | .and => (a &&& b).toNat | .or => (a ||| b).toNat | .xor => (a ^^^ b).toNat | _ => (a &&& ~~~b).toNat : Nat)
def shlI (k : IntKind) (x y : Int) : Int := k.wrap (x * 2 ^ (min y.toNat k.bits))
def shrI (k : IntKind) (x y : Int) : Int := x.fdiv (2 ^ (min y.toNat k.bits))
def maxI (x y : Int) : Int := if y > x then y else x
def minI (x y : Int) : Int := if y < x then y else x
def eqS (a b : ByteArray) : Bool := a.data.toList == b.data.toList
def ltS (a b : ByteArray) : Bool := Op.bytesLess a.data.toList b.data.toList
theorem eqS_eq (a b : ByteArray) : eqS a b = (a.toList == b.toList) := by rw [ByteArray.toList_eq, ByteArray.toList_eq]; rfl
theorem ltS_eq (a b : ByteArray) : ltS a b = Op.bytesLess a.toList b.toList := by rw [ByteArray.toList_eq, ByteArray.toList_eq]; rfl
def catOk (a b : ByteArray) : Bool := decide (((a.size + b.size : Nat) : Int) ≤ IntKind.i64.max)
def catS (a b : ByteArray) : ByteArray := a ++ b
def subS (s : ByteArray) (l h : Nat) : ByteArray := s.extract l h
def lenS (s : ByteArray) : Int := s.size
def atS (s : ByteArray) (i : Int) : Int := ((s.data.toList.getD i.toNat 0).toNat : Int)
def eqFl (k : FloatKind) (x y : Nat) : Bool := k.format.order x y == some .eq
def ltFl (k : FloatKind) (x y : Nat) : Bool := k.format.order x y == some .lt
def gtFl (k : FloatKind) (x y : Nat) : Bool := k.format.order x y == some .gt
def arOk (op : BinOp) (k : FloatKind) (x y : Nat) : Bool := (match op with | .add => k.format.add x y | .sub => k.format.sub x y | .mul => k.format.mul x y | _ => k.format.div x y).isSome
def arV (op : BinOp) (k : FloatKind) (x y : Nat) : Nat := (match op with | .add => k.format.add x y | .sub => k.format.sub x y | .mul => k.format.mul x y | _ => k.format.div x y).getD 0
def ofI (k : FloatKind) (n : Int) : Nat := k.nearest n
def toIOk (k : FloatKind) (b : Nat) (d : IntKind) : Bool := match (k.decode b).toInt .zero with | some n => decide (d.min ≤ n ∧ n ≤ d.max) | none => false
def toIV (k : FloatKind) (b : Nat) : Int := ((k.decode b).toInt .zero).getD 0
def lenL (l : List (List PC)) : Int := (l.length : Int)
def lenB (l : List (List PC)) (j : Int) : Bool := decide (0 ≤ j ∧ j < (l.length : Int))
def lenC (l : List (List PC)) (j : Int) : Bool := decide (0 ≤ j ∧ j ≤ (l.length : Int))
def rowAt (l : List (List PC)) (j : Int) : List PC := l.getD j.toNat []
def rowsIn (l : List (List PC)) (a b : Int) : List (List PC) := (l.take b.toNat).drop a.toNat
def catL (l m : List (List PC)) : List (List PC) := l ++ m
def setRow (l : List (List PC)) (j : Nat) (r : List PC) : List (List PC) := l.set j r
def repRow (r : List PC) (n : Int) : List (List PC) := List.replicate n.toNat r
def roomFor (l m : List (List PC)) (bytes : Nat) : Bool := decide ((l.length + m.length) * bytes ≤ 140737488355328 ∧ (l.length + m.length) ≤ 140737488355328)
noncomputable def bEq (a b : Bool) : Bool := @Bool.rec (fun _ => Bool) (!b) b a
def roomN (n : Int) (bytes : Nat) : Bool := decide (0 ≤ n ∧ n * bytes ≤ 140737488355328 ∧ n ≤ 140737488355328)
def bytesS (s : ByteArray) : List (List PC) := s.data.toList.map fun b => [.v (.int .u8 b.toNat)]
def pcByte : List PC → Option UInt8
  | [.v (.int .u8 n)] => some (UInt8.ofNat n.toNat)
  | _ => none
def strOk (l : List (List PC)) : Bool := l.all fun r => (pcByte r).isSome
def strOf (l : List (List PC)) : ByteArray := ⟨(l.map fun r => (pcByte r).getD 0).toArray⟩
def rowsOk (l : List (List PC)) (k : Nat) : Bool := l.all fun r => r.length == k
def isAgg : TD → Bool
  | .struct _ => true
  | .arr .. => true
  | _ => false
noncomputable def A.cells : A → List C
  | .one c => [c]
  | .agg cs => cs
  | .tup _ => []
noncomputable def cellsC (a : A) (K : List C → Prop) : Prop := match a with
  | .one .junk => False
  | .one c => K [c]
  | .agg cs => K cs
  | .tup _ => False
noncomputable def look (σ : List Blk) (b : Nat) : Blk := nth .dead σ b
def flat : Value → Bool
  | .bool _ => true
  | .int _ _ => true
  | .float _ _ => true
  | .complex _ _ _ => true
  | .string _ => true
  | .pointer none => true
  | .slice none 0 0 => true
  | .map none => true
  | .nilFunc => true
  | .nilIface => true
  | .iface _ (.int _ _) => true
  | _ => false
noncomputable def flatP (v : Value) : C := @Bool.rec (fun _ => C) .junk (.p (.v v)) (flat v)
noncomputable def constA (v : Value) : A := match v with
  | .agg cs => @Bool.rec (fun _ => A) (.one .junk) (.agg (mapR flatP cs.toList)) (allR flat cs.toList)
  | v => .one (flatP v)
noncomputable def opd (t : List A) : Operand → A
  | .tmp n => nth (.one .junk) t n
  | .const v => constA v
  | .global _ => .one .junk
  | .func f => .one (.fn f [])
abbrev Kont := A → List (Nat × Blk) → List Blk → List Nat → Prop
noncomputable def ncF (cs : List C) : Nat → (List C → List Blk → Prop) → Prop :=
  @List.rec C (fun _ => Nat → (List C → List Blk → Prop) → Prop) (fun _ k => k [] [])
    (fun c _ ih nx k => match c with
      | .p (.v (.slice none 0 0)) => ih (nx + 1) fun cs nw => natF nx fun n => k (.own n :: cs) (.rows 0 [] :: nw)
      | c => ih nx fun cs nw => k (c :: cs) nw) cs
noncomputable def ncS (agg : Bool) (cs : List C) (nx : Nat) (k : List C → List Blk → Prop) : Prop := match agg with
  | true => k cs []
  | false => ncF cs nx k
def isAggA : A → Bool
  | .agg _ => true
  | _ => false
noncomputable def rowsF (σ : List Blk) (c : C) (K : List (List PC) → List Nat → Prop) : Prop := match c with
  | .p (.sl r) => K r []
  | .p (.v (.slice none 0 0)) => K [] []
  | .own b => match look σ b with
    | .rows _ l => K l [b]
    | .nest _ _ _ l => K l [b]
    | _ => False
  | _ => False
def eqv {α : Type} (a : α) (k : α → Prop) : Prop := ∀ r, r = a → k r
inductive Two (a b : Prop) : Prop
  | l : a → Two a b
  | r : b → Two a b
noncomputable def nzF (c : PC) (k : PC → Prop) : Prop := match c with
  | .v (.slice none 0 0) => k (.sl [])
  | .v x => k (.v x)
  | .sl r => k (.sl r)
noncomputable def nzC (c : C) (k : C → Prop) : Prop := match c with
  | .p c => nzF c fun c => k (.p c)
  | c => k c
noncomputable def nzA1 (a : A) (k : A → Prop) : Prop := match a with
  | .one c => nzC c fun c => k (.one c)
  | .agg l => mapF nzC l fun l => k (.agg l)
  | .tup l => k (.tup l)
noncomputable def nzA (a : A) (k : A → Prop) : Prop := match a with
  | .one c => nzC c fun c => k (.one c)
  | .agg l => mapF nzC l fun l => k (.agg l)
  | .tup l => mapF nzA1 l fun l => k (.tup l)
noncomputable def toP (σ : List Blk) (c : C) (K : PC → List Nat → Prop) : Prop := match c with
  | .p c => nzF c fun c => K c []
  | .own b => match look σ b with
    | .rows _ l => K (.sl l) [b]
    | .nest _ _ _ l => K (.sl l) [b]
    | _ => False
  | _ => False
noncomputable def toPs (σ : List Blk) (cs : List C) : (List PC → List Nat → Prop) → Prop :=
  @List.rec C (fun _ => (List PC → List Nat → Prop) → Prop) (fun k => k [] []) (fun c _ ih k => toP σ c fun c bs => ih fun cs bs' => k (c :: cs) (appR bs bs')) cs
noncomputable def binInt (op : BinOp) (k : IntKind) (a b : Int) (K : Value → Prop) : Prop :=
  match op with
  | .add => K (.int k (wr k (a + b)))
  | .sub => K (.int k (wr k (a - b)))
  | .mul => K (.int k (wr k (a * b)))
  | .quo => bcase (eqI b 0) False (K (.int k (wr k (tdivI a b))))
  | .rem => bcase (eqI b 0) False (K (.int k (tmodI a b)))
  | .and => K (.int k (bitsI .and k a b))
  | .or => K (.int k (bitsI .or k a b))
  | .xor => K (.int k (bitsI .xor k a b))
  | .andNot => K (.int k (bitsI .andNot k a b))
  | .eql => K (.bool (eqI a b))
  | .neq => K (.bool (!eqI a b))
  | .lss => K (.bool (ltI a b))
  | .leq => K (.bool (leI a b))
  | .gtr => K (.bool (ltI b a))
  | .geq => K (.bool (leI b a))
  | _ => False
noncomputable def binStr (op : BinOp) (a b : ByteArray) (K : Value → Prop) : Prop :=
  match op with
  | .add => bcase (catOk a b) (K (.string (catS a b))) False
  | .eql => K (.bool (eqS a b))
  | .neq => K (.bool (!eqS a b))
  | .lss => K (.bool (ltS a b))
  | .leq => K (.bool (ltS a b || eqS a b))
  | .gtr => K (.bool (!(ltS a b || eqS a b)))
  | .geq => K (.bool (!ltS a b))
  | _ => False
noncomputable def binFlt (op : BinOp) (k : FloatKind) (a b : Nat) (K : Value → Prop) : Prop :=
  match op with
  | .add => bcase (arOk .add k a b) (K (.float k (arV .add k a b))) False
  | .sub => bcase (arOk .sub k a b) (K (.float k (arV .sub k a b))) False
  | .mul => bcase (arOk .mul k a b) (K (.float k (arV .mul k a b))) False
  | .eql => K (.bool (eqFl k a b))
  | .neq => K (.bool (!eqFl k a b))
  | .lss => K (.bool (ltFl k a b))
  | .leq => K (.bool (ltFl k a b || eqFl k a b))
  | .gtr => K (.bool (gtFl k a b))
  | .geq => K (.bool (gtFl k a b || eqFl k a b))
  | _ => False
noncomputable def binCpx (op : BinOp) (k : FloatKind) (a b c d : Nat) (K : Value → Prop) : Prop :=
  match op with
  | .add => bcase (arOk .add k a c && arOk .add k b d) (K (.complex k (arV .add k a c) (arV .add k b d))) False
  | .sub => bcase (arOk .sub k a c && arOk .sub k b d) (K (.complex k (arV .sub k a c) (arV .sub k b d))) False
  | .eql => K (.bool (eqFl k a c && eqFl k b d))
  | .neq => K (.bool (!(eqFl k a c && eqFl k b d)))
  | _ => False
noncomputable def eqCell (z : Value) (x y : C) (K : Bool → Prop) : Prop := match z, x, y with
  | .int k _, .p (.v (.int k1 a)), .p (.v (.int k2 b)) => bcase (decide (k = k1) && decide (k = k2)) (K (eqI a b)) False
  | .string _, .p (.v (.string a)), .p (.v (.string b)) => K (eqS a b)
  | .bool _, .p (.v (.bool a)), .p (.v (.bool b)) => K (@Bool.rec (fun _ => Bool) (!b) b a)
  | .complex k _ _, .p (.v (.complex k1 a b)), .p (.v (.complex k2 c d)) => bcase (decide (k = k1) && decide (k = k2)) (K (eqFl k a c && eqFl k b d)) False
  | _, _, _ => False
noncomputable def eqCells (zs : List Value) : List C → List C → (Bool → Prop) → Prop :=
  @List.rec Value (fun _ => List C → List C → (Bool → Prop) → Prop) (fun xs ys k => match xs, ys with | [], [] => k true | _, _ => False)
    (fun z zs ih xs ys k => match xs, ys with
      | x :: xs, y :: ys => eqCell z x y fun b => ih xs ys fun c => k (andB b c)
      | _, _ => False) zs
variable (T : List TI)
noncomputable def ty (t : Nat) : TI := nth TI.none T t
noncomputable def partAt (t : Nat) (i : Nat) : Option (Nat × Nat) := match (ty T t).d with
  | .struct fs => match dropR fs i with
    | (o, f) :: _ => some (o, (ty T f).sz)
    | [] => none
  | .arr n e => some (i * (ty T e).sz, (ty T e).sz)
  | _ => none
def knownD : TD → Bool
  | .other => false
  | _ => true
noncomputable def knownB (t : Nat) : Bool := match (ty T t).d with
  | .struct fs => allR (fun (f : Nat × Nat) => knownD (ty T f.2).d) fs
  | .arr _ e => knownD (ty T e).d
  | _ => false
noncomputable def fillF (at_ : Nat → Option (Nat × Nat)) (ps : List (Nat × A)) : List C → (List C → Prop) → Prop :=
  @List.rec (Nat × A) (fun _ => List C → (List C → Prop) → Prop) (fun cs k => k cs)
    (fun p _ ih cs k => match at_ p.1 with
      | some (o, n) => cellsC p.2 fun pc => bcase (Nat.beq (lenR pc) n && Nat.ble (o + n) (lenR cs)) (ih (splice cs o pc) k) False
      | none => False) ps
noncomputable def zeroC (t : Nat) : List C := mapR (fun x => C.p (.v x)) (ty T t).z
noncomputable def chunk (k : Nat) (n : Nat) : List PC → List (List PC) := @Nat.rec (fun _ => List PC → List (List PC)) (fun _ => []) (fun _ ih cs => takeR cs k :: ih (dropR cs k)) n
noncomputable def cellsOf (c : Bool) (cs : List C) (K : A → Prop) : Prop := @Bool.rec (fun _ => Prop) (match cs with | [c] => K (.one c) | _ => False) (K (.agg cs)) c
noncomputable def loadC (σ : List Blk) (t : Nat) (a : A) (K : Kont) : Prop :=
  match a with
  | .one (.ptr b o) => match look σ b with
    | .box cs => bcase (Nat.ble (o + (ty T t).sz) (lenR cs)) (cellsOf (isAgg (ty T t).d) (takeR (dropR cs o) (ty T t).sz) fun v => K v [] [] [b]) False
    | _ => False
  | .one (.rp cs) => bcase (Nat.ble (ty T t).sz (lenR cs)) (cellsOf (isAgg (ty T t).d) (mapR C.p (takeR cs (ty T t).sz)) fun v => K v [] [] []) False
  | .one (.ep b k i o) => match look σ b with
    | .rows k' l => bcase (lenB l i && Nat.beq k k')
        (mapF pF (rowAt l i) fun r => bcase (Nat.ble (o + (ty T t).sz) (lenR r)) (cellsOf (isAgg (ty T t).d) (mapR C.p (takeR (dropR r o) (ty T t).sz)) fun v => K v [] [] [b]) False) False
    | .nest k' p k2 l => bcase (lenB l i && Nat.beq k k')
        (mapF pF (rowAt l i) fun r => bcase (Nat.ble (o + (ty T t).sz) (lenR r) && (Nat.ble (p + 1) o || Nat.ble (o + (ty T t).sz) p)) (cellsOf (isAgg (ty T t).d) (mapR C.p (takeR (dropR r o) (ty T t).sz)) fun v => K v [] [] [b]) False) False
    | _ => False
  | _ => False
noncomputable def takeOut (σ : List Blk) (nx b k i o : Nat) (K : Kont) : Prop := match look σ b with
  | .nest k' p k2 l => bcase (lenB l i && Nat.beq k k' && Nat.beq o p)
      (mapF pF (rowAt l i) fun r => match dropR r p with
        | .sl m :: _ => K (.one (.own nx)) [(b, .hole k' p k2 i l)] [.rows k2 m] [b]
        | _ => False) False
  | _ => False
noncomputable def layIn (σ : List Blk) (b k i o c : Nat) (K : Kont) : Prop := match look σ b with
  | .hole k' p k2 i' l => bcase (lenB l i && Nat.beq k k' && Nat.beq o p && Nat.beq i i')
      (match look σ c with
        | .rows k3 m => bcase (Nat.beq k3 k2 || Nat.beq k3 0) (mapF pF (rowAt l i) fun r => eqv (setRow l i (splice r p [.sl m])) fun l' => K (.tup []) [(b, .nest k' p k2 l'), (c, .dead)] [] [c]) False
        | _ => False) False
  | _ => False
noncomputable def outB (σ : List Blk) (one : Bool) (b o : Nat) (y n : Prop) : Prop := match look σ b with
  | .nest _ p _ _ => bcase (one && Nat.beq o p) y n
  | .hole _ p _ _ _ => bcase (one && Nat.beq o p) y n
  | _ => n
def isSlD : TD → Bool
  | .slice _ => true
  | _ => false
noncomputable def storeC (σ : List Blk) (nx : Nat) (t : Nat) (a v : A) (K : Kont) : Prop :=
  cellsC v fun vc => bcase (Nat.beq (lenR vc) (ty T t).sz && Nat.ble 1 (ty T t).sz)
   (match a with
    | .one (.ptr b o) => match look σ b with
      | .box cs => bcase (Nat.ble (o + (ty T t).sz) (lenR cs)) (ncS (isAggA v) vc nx fun vs nw => K (.tup []) [(b, .box (splice cs o vs))] nw []) False
      | _ => False
    | .one (.ep b k i o) => match look σ b with
      | .rows k' l => bcase (lenB l i && Nat.beq k k')
          (toPs σ vc fun ps bs => match bs with
            | [] => mapF pF (rowAt l i) fun r => bcase (Nat.ble (o + (ty T t).sz) (lenR r)) (eqv (setRow l i (splice r o ps)) fun l' => K (.tup []) [(b, .rows k' l')] [] []) False
            | _ => False) False
      | _ => False
    | _ => False) False
noncomputable def binC (op : BinOp) (s : TI) (x y : A) (K : A → Prop) : Prop :=
  match x, y with
  | .one (.p (.v (.int k a))), .one (.p (.v (.int k' b))) =>
    (match op with
     | .shl => bcase (ltI b 0) False (K (.one (.p (.v (.int k (shlI k a b))))))
     | .shr => bcase (ltI b 0) False (K (.one (.p (.v (.int k (shrI k a b))))))
     | op => bcase (decide (k = k')) (binInt op k a b fun v => K (.one (.p (.v v)))) False)
  | .one (.p (.v (.bool a))), .one (.p (.v (.bool b))) =>
    (match op, s.d with
     | .eql, .bool => K (.one (.p (.v (.bool (@Bool.rec (fun _ => Bool) (!b) b a)))))
     | .neq, .bool => K (.one (.p (.v (.bool (@Bool.rec (fun _ => Bool) b (!b) a)))))
     | _, _ => False)
  | .one (.p (.v (.string a))), .one (.p (.v (.string b))) => binStr op a b fun v => K (.one (.p (.v v)))
  | .one (.p (.v (.float k a))), .one (.p (.v (.float k' b))) => bcase (decide (k = k')) (binFlt op k a b fun v => K (.one (.p (.v v)))) False
  | .one (.p (.v (.complex k a b))), .one (.p (.v (.complex k' c d))) => bcase (decide (k = k')) (binCpx op k a b c d fun v => K (.one (.p (.v v)))) False
  | .agg xs, .agg ys =>
    (match op with
     | .eql => bcase s.eq (eqCells s.z xs ys fun b => K (.one (.p (.v (.bool b))))) False
     | .neq => bcase s.eq (eqCells s.z xs ys fun b => K (.one (.p (.v (.bool (!b)))))) False
     | _ => False)
  | _, _ => False
def isConst : Operand → Bool
  | .const _ => true
  | _ => false
noncomputable def nilC (σ : List Blk) (s : TI) (cst : Bool) (x y : A) (K : Bool → List Nat → Prop) : Prop :=
  match s.d, x, y with
  | .ptr _, .one (.p (.v (.pointer none))), .one (.p (.v (.pointer none))) => K true []
  | .ptr _, .one (.ptr b _), .one (.p (.v (.pointer none))) => match look σ b with
    | .box _ => K false [b]
    | _ => False
  | .iface, .one (.p (.v (.iface a (.int k m)))), .one (.p (.v (.iface b (.int k' n)))) => bcase (Nat.beq a b) (bcase (decide (k = k')) (match (ty T a).d with
    | .int _ => K (eqI m n) []
    | _ => False) False) (K false [])
  | .iface, .one (.p (.v (.iface _ _))), .one (.p (.v .nilIface)) => K false []
  | .iface, .one (.p (.v .nilIface)), .one (.p (.v (.iface _ _))) => K false []
  | .iface, .one (.p (.v .nilIface)), .one (.p (.v .nilIface)) => bcase cst (K true []) False
  | _, _, _ => False
noncomputable def pRows (c : C) (K : List (List PC) → Prop) : Prop := match c with
  | .p (.sl r) => K r
  | .p (.v (.slice none 0 0)) => K []
  | _ => False
noncomputable def sliceC (σ : List Blk) (nx : Nat) (e : Nat) (x : C) (lo hi : Option Int) (mx : Option Int) (K : Kont) : Prop :=
  bcase (Nat.ble 1 (ty T e).sz) (match x, lo, hi, mx with
  | .own b, none, some h, none => match look σ b with
    | .rows k l => bcase (lenC l h && (Nat.beq k (ty T e).sz || Nat.beq k 0)) (eqv (rowsIn l 0 h) fun l' => K (.one (.own nx)) [(b, .dead)] [.rows k l'] [b]) False
    | _ => False
  | x, lo, hi, mx => pRows x fun l =>
      bcase (lenC l (hi.getD (lenL l)) && leI 0 (lo.getD 0) && leI (lo.getD 0) (hi.getD (lenL l)) && rowsOk l (ty T e).sz)
        (match mx with
         | none => eqv (rowsIn l (lo.getD 0) (hi.getD (lenL l))) fun l' => K (.one (.p (.sl l'))) [] [] []
         | some m => bcase (eqI m (hi.getD (lenL l)) && hi.isSome) (bcase (eqI (lo.getD 0) (hi.getD (lenL l)))
              (K (.one (.own nx)) [] [.rows 0 []] [])
              (eqv (rowsIn l (lo.getD 0) (hi.getD (lenL l))) fun l' => Two (K (.one (.p (.sl l'))) [] [] []) (K (.one (.cp l')) [] [] []))) False) False) False
noncomputable def valI (t : List A) : Option Operand → (Option Int → Prop) → Prop
  | none, K => K none
  | some x, K => match opd t x with
    | .one (.p (.v (.int _ n))) => K (some n)
    | _ => False
noncomputable def appendC (σ : List Blk) (nx : Nat) (e : Nat) (s : C) (news : List (List PC)) (rd : List Nat) (K : Kont) : Prop :=
  match s with
  | .own b => match look σ b with
    | .rows k l => bcase (roomFor l news (ty T e).bytes && rowsOk news (ty T e).sz && (Nat.beq k (ty T e).sz || Nat.beq k 0))
        (bcase (Nat.ble 1 (ty T e).sz) (eqv (catL l news) fun l' => K (.one (.own nx)) [(b, .dead)] [.rows (ty T e).sz l'] (b :: rd)) False) False
    | _ => False
  | .p (.v (.slice none 0 0)) => bcase (roomFor [] news (ty T e).bytes && rowsOk news (ty T e).sz)
        (bcase (Nat.ble 1 (ty T e).sz) (eqv (catL [] news) fun l' => K (.one (.own nx)) [] [.rows (ty T e).sz l'] rd) False) False
  | .cp l => bcase (roomFor l news (ty T e).bytes && rowsOk news (ty T e).sz && rowsOk l (ty T e).sz)
        (bcase (Nat.ble 1 (ty T e).sz) (eqv (catL l news) fun l' => K (.one (.p (.sl l'))) [] [] rd) False) False
  | _ => False
noncomputable def appendN (σ : List Blk) (nx : Nat) (e : Nat) (s : C) (bx k o k' : Nat) (news : List (List PC)) (K : Kont) : Prop :=
  match s with
  | .own b => match look σ b with
    | .nest k1 o1 k1' l => bcase (roomFor l news (ty T e).bytes && Nat.beq k1 k && Nat.beq o1 o && Nat.beq k1' k' && Nat.beq k (ty T e).sz && !Nat.beq b bx)
        (eqv (catL l news) fun l' => K (.one (.own nx)) [(b, .dead), (bx, .dead)] [.nest k o k' l'] [b, bx]) False
    | .rows k0 [] => bcase (roomFor [] news (ty T e).bytes && Nat.beq k (ty T e).sz && !Nat.beq b bx && Nat.ble 1 (lenR news) && (Nat.beq k0 (ty T e).sz || Nat.beq k0 0)) (K (.one (.own nx)) [(b, .dead), (bx, .dead)] [.nest k o k' news] [b, bx]) False
    | _ => False
  | .p (.v (.slice none 0 0)) => bcase (roomFor [] news (ty T e).bytes && Nat.beq k (ty T e).sz && Nat.ble 1 (lenR news)) (K (.one (.own nx)) [(bx, .dead)] [.nest k o k' news] [bx]) False
  | _ => False
noncomputable def slCols (fs : List (Nat × Nat)) : List (Nat × Nat) := @List.rec (Nat × Nat) (fun _ => List (Nat × Nat)) [] (fun f _ ih => match (ty T f.2).d with
  | .slice e => (f.1, (ty T e).sz) :: ih
  | _ => ih) fs
noncomputable def nestCol (e : Nat) : Option (Nat × Nat) := match (ty T e).d with
  | .struct fs => match slCols T fs with
    | [x] => some x
    | _ => none
  | _ => none
noncomputable def nestB (σ : List Blk) (x : C) (y : Nat → Nat → Nat → Nat → List (List PC) → Prop) (n : Prop) : Prop := match x with
  | .own b => match look σ b with
    | .nest k o k' l => y b k o k' l
    | _ => n
  | _ => n
noncomputable def minMax (f : Int → Int → Int) (xs : List A) (K : A → Prop) : Prop := match xs with
  | [.one (.p (.v (.int k a))), .one (.p (.v (.int k' b)))] => bcase (decide (k = k')) (K (.one (.p (.v (.int k (f a b)))))) False
  | _ => False
noncomputable def builtinC (σ : List Blk) (nx : Nat) (b : Builtin) (ts : List Nat) (xs : List A) (K : Kont) : Prop :=
  match b, ts, xs with
  | .len, t :: _, [.one c] => match (ty T t).d, c with
    | .str, .p (.v (.string s)) => K (.one (.p (.v (.int .i64 (lenS s))))) [] [] []
    | .slice _, c => rowsF σ c fun l bs => eqv (lenL l) fun n => K (.one (.p (.v (.int .i64 n)))) [] [] bs
    | _, _ => False
  | .len, t :: _, _ :: _ => match (ty T t).d with
    | .arr n _ => K (.one (.p (.v (.int .i64 n)))) [] [] []
    | _ => False
  | .cap, t :: _, [.one c] => match (ty T t).d, c with
    | .slice _, .p (.v (.slice none 0 0)) => K (.one (.p (.v (.int .i64 0)))) [] [] []
    | .slice _, .own b => match look σ b with
      | .rows 0 [] => K (.one (.p (.v (.int .i64 0)))) [] [] [b]
      | _ => False
    | _, _ => False
  | .append, [t, t'], [.one s, .one x] => match (ty T t).d, (ty T t').d with
    | .slice e, .slice e' => bcase (Nat.beq e e') (nestB σ x (fun bx k o k' l => appendN T σ nx e s bx k o k' l K) (rowsF σ x fun l bs => appendC T σ nx e s l bs K)) False
    | .slice e, .str => match x with
      | .p (.v (.string u)) => appendC T σ nx e s (bytesS u) [] K
      | _ => False
    | _, _ => False
  | .max, _, xs => minMax maxI xs fun v => K v [] [] []
  | .min, _, xs => minMax minI xs fun v => K v [] [] []
  | .real, _, [.one (.p (.v (.complex k a _)))] => K (.one (.p (.v (.float k a)))) [] [] []
  | .imag, _, [.one (.p (.v (.complex k _ b)))] => K (.one (.p (.v (.float k b)))) [] [] []
  | .complex, _, [.one (.p (.v (.float k a))), .one (.p (.v (.float k' b)))] => bcase (decide (k = k')) (K (.one (.p (.v (.complex k a b)))) [] [] []) False
  | _, _, _ => False
noncomputable def convC (σ : List Blk) (nx : Nat) (same : Bool) (src dst : TI) (x : A) (K : Kont) : Prop :=
  bcase (knownD src.d) (match dst.d, src.d, x with
  | .int k, _, .one (.p (.v (.int _ n))) => K (.one (.p (.v (.int k (wr k n))))) [] [] []
  | .flt k, _, .one (.p (.v (.int _ n))) => K (.one (.p (.v (.float k (ofI k n))))) [] [] []
  | .int k, _, .one (.p (.v (.float s b))) => bcase (toIOk s b k) (K (.one (.p (.v (.int k (toIV s b))))) [] [] []) False
  | .str, .str, .one (.p (.v (.string s))) => K (.one (.p (.v (.string s)))) [] [] []
  | .slice e, .str, .one (.p (.v (.string s))) => match (ty T e).d with
    | .int .u8 => K (.one (.p (.sl (bytesS s)))) [] [] []
    | _ => False
  | .slice e, .slice _, .one (.own b) => match (ty T e).d with
    | .int .u8 => match look σ b with
      | .rows _ l => bcase same (bcase (lenB l 0) (K (.one (.p (.sl l))) [(b, .dead)] [] [b]) False) False
      | _ => False
    | _ => False
  | .str, .slice e, .one c => match (ty T e).d with
    | .int .u8 => rowsF σ c fun l bs => bcase (strOk l) (K (.one (.p (.v (.string (strOf l))))) [] [] bs) False
    | _ => False
  | _, _, _ => False) False
noncomputable def nestQ (σ : List Blk) (e n : Nat) (cs : List C) (y : Nat → Nat → List PC → Prop) (m : Prop) : Prop := match nestCol T e, n with
  | some (o, k'), 1 => match dropR cs o with
    | .p (.v (.slice none 0 0)) :: _ => Two m (toPs σ cs fun ps bs => match bs with
      | [] => bcase (Nat.beq (lenR ps) (ty T e).sz && Nat.ble (o + 1) (ty T e).sz && Nat.ble (ty T e).sz 1000) (y o k' ps) False
      | _ => False)
    | _ => m
  | _, _ => m
def pcEq : PC → PC → Bool
  | .v (.int k a), .v (.int k' b) => decide (k = k') && a == b
  | .v (.string a), .v (.string b) => eqS a b
  | _, _ => false
def keyEq : List PC → List PC → Bool
  | [], [] => true
  | a :: l, b :: m => pcEq a b && keyEq l m
  | _, _ => false
def getM (es : List (List PC × List PC)) (k : List PC) : Option (List PC) := (es.find? fun e => keyEq e.1 k).map (·.2)
def setM (es : List (List PC × List PC)) (k v : List PC) : List (List PC × List PC) := if (getM es k).isSome then es.map fun e => if keyEq e.1 k then (e.1, v) else e else es ++ [(k, v)]
noncomputable def kkOf (t : Nat) : Option KK := match (ty T t).d with
  | .int k => some (.int k)
  | .str => some .str
  | .arr n e => match (ty T e).d with
    | .int k => some (.ints k n)
    | _ => none
  | _ => none
def kkEq (a b : KK) : Bool := match a, b with
  | .int k, .int k' => decide (k = k')
  | .str, .str => true
  | .ints k n, .ints k' n' => decide (k = k') && Nat.beq n n'
  | _, _ => false
noncomputable def zInts (k : IntKind) (z : List Value) : Bool := allR (fun v => match v with
  | .int k' _ => decide (k = k')
  | _ => false) z
noncomputable def intCells (k : IntKind) (cs : List C) : (List PC → Prop) → Prop :=
  @List.rec C (fun _ => (List PC → Prop) → Prop) (fun K => K [])
    (fun c _ ih K => match c with
      | .p (.v (.int k' a)) => bcase (decide (k = k')) (ih fun l => K (.v (.int k' a) :: l)) False
      | _ => False) cs
noncomputable def keyF (t : Nat) (a : A) (K : KK → List PC → Prop) : Prop := match kkOf T t, a with
  | some (.int k), .one (.p (.v (.int k' n))) => bcase (decide (k = k')) (K (.int k) [.v (.int k' n)]) False
  | some .str, .one (.p (.v (.string s))) => K .str [.v (.string s)]
  | some (.ints k n), .agg cs => bcase ((ty T t).eq && Nat.beq n (lenR cs) && Nat.beq n (lenR (ty T t).z) && Nat.beq n (ty T t).sz && zInts k (ty T t).z) (intCells k cs fun l => K (.ints k n) l) False
  | _, _ => False
noncomputable def foundA (ok : Bool) (v : A) (b : Bool) (K : A → Prop) : Prop := match ok with
  | false => K v
  | true => match v with
    | .tup _ => False
    | v => K (.tup [v, .one (.p (.v (.bool b)))])
noncomputable def lookupC (σ : List Blk) (s : Nat) (m i : A) (ok : Bool) (K : Kont) : Prop := match (ty T s).d, m with
  | .map kt et, .one (.mp b) => match look σ b with
    | .mp kk va es => keyF T kt i fun kk' kc => bcase (kkEq kk kk' && bEq va (isAgg (ty T et).d) && Nat.ble 1 (ty T et).sz) (eqv (getM es kc) fun o => match o with
      | some r => mapF pF r fun r => bcase (Nat.beq (lenR r) (ty T et).sz) (cellsOf (isAgg (ty T et).d) (mapR C.p r) fun v => foundA ok v true fun a => K a [] [] [b]) False
      | none => cellsOf (isAgg (ty T et).d) (zeroC T et) fun v => foundA ok v false fun a => K a [] [] [b]) False
    | _ => False
  | _, _ => False
noncomputable def mapUpdateC (σ : List Blk) (s : Nat) (m i v : A) (K : Kont) : Prop := match (ty T s).d, m with
  | .map kt et, .one (.mp b) => match look σ b with
    | .mp kk va es => keyF T kt i fun kk' kc => cellsC v fun vc => bcase (kkEq kk kk' && bEq va (isAggA v) && Nat.beq (lenR vc) (ty T et).sz) (toPs σ vc fun ps bs => match bs with
        | [] => eqv (setM es kc ps) fun es' => K (.tup []) [(b, .mp kk va es')] [] []
        | _ => False) False
    | _ => False
  | _, _ => False
noncomputable def asPtrs (l : List A) : (List Nat → Prop) → Prop :=
  @List.rec A (fun _ => (List Nat → Prop) → Prop) (fun k => k []) (fun a _ ih k => match a with
    | .one (.ptr b 0) => ih fun bs => k (b :: bs)
    | _ => False) l
noncomputable def stepC (t : List A) (σ : List Blk) (nx : Nat) (op : Op) (K : Kont) : Prop :=
  match op with
  | .move x | .assign x => match isConst x, opd t x with
    | true, .one (.p (.v (.slice none 0 0))) => K (.one (.own nx)) [] [.rows 0 []] []
    | _, a => K a [] [] []
  | .pick c x y => match opd t c with
    | .one (.p (.v (.bool b))) => bcase b (K (opd t x) [] [] []) (K (opd t y) [] [] [])
    | _ => False
  | .alloc e => bcase (Nat.ble 1 (ty T e).sz) (ncF (zeroC T e) (nx + 1) fun cs nw => K (.one (.ptr nx 0)) [] (.box cs :: nw) []) False
  | .box _ x => cellsC (opd t x) fun vc => ncF vc (nx + 1) fun cs nw => K (.one (.ptr nx 0)) [] (.box cs :: nw) []
  | .build s ps => bcase (knownB T s) (fillF (partAt T s) (mapR (fun p => (p.1, opd t p.2)) ps.toList) (zeroC T s) fun cs => K (.agg cs) [] [] []) False
  | .buildSlice s n ps => match (ty T s).d with
    | .slice e => fillF (fun i => some (i * (ty T e).sz, (ty T e).sz)) (mapR (fun p => (p.1, opd t p.2)) ps.toList) (flatR (repR (zeroC T e) n)) fun cs =>
        nestQ T σ e n cs (fun o k' ps => K (.one (.own nx)) [] [.nest (ty T e).sz o k' [ps]] [])
        (toPs σ cs fun ps bs => bcase (Nat.ble (n * (ty T e).sz) 1000 && Nat.ble 1 (ty T e).sz) (K (.one (.own nx)) (mapR (fun b => (b, .dead)) bs) [.rows (ty T e).sz (chunk (ty T e).sz n ps)] bs) False)
    | _ => False
  | .load s x => match opd t x with
    | .one (.ep b k i o) => outB σ (isSlD (ty T s).d) b o (takeOut σ nx b k i o K) (loadC T σ s (.one (.ep b k i o)) K)
    | a => loadC T σ s a K
  | .store s a x => match opd t a with
    | .one (.ep b k i o) => outB σ (isSlD (ty T s).d) b o (match opd t x with
      | .one (.own c) => layIn σ b k i o c K
      | _ => False) (storeC T σ nx s (.one (.ep b k i o)) (opd t x) K)
    | a => storeC T σ nx s a (opd t x) K
  | .nilCheck x => match opd t x with
    | .one (.ptr b o) => match look σ b with
      | .box _ => K (.one (.ptr b o)) [] [] [b]
      | _ => False
    | .one (.rp cs) => K (.one (.rp cs)) [] [] []
    | .one (.ep b k i o) => match look σ b with
      | .rows k' l => bcase (lenB l i && Nat.beq k k') (K (.one (.ep b k i o)) [] [] [b]) False
      | .nest k' _ _ l => bcase (lenB l i && Nat.beq k k') (K (.one (.ep b k i o)) [] [] [b]) False
      | .hole k' _ _ _ l => bcase (lenB l i && Nat.beq k k') (K (.one (.ep b k i o)) [] [] [b]) False
      | _ => False
    | .one (.fn f l) => K (.one (.fn f l)) [] [] []
    | .one (.pf f l) => K (.one (.pf f l)) [] [] []
    | _ => False
  | .binOp op s x y _ => match (ty T s).d with
    | .ptr _ | .iface => match op with
      | .eql => nilC T σ (ty T s) (isConst x || isConst y) (opd t x) (opd t y) fun b bs => K (.one (.p (.v (.bool b)))) [] [] bs
      | .neq => nilC T σ (ty T s) (isConst x || isConst y) (opd t x) (opd t y) fun b bs => K (.one (.p (.v (.bool (!b))))) [] [] bs
      | _ => False
    | _ => binC op (ty T s) (opd t x) (opd t y) fun v => K v [] [] []
  | .unOp op _ x => match op, opd t x with
    | .not, .one (.p (.v (.bool b))) => K (.one (.p (.v (.bool (!b))))) [] [] []
    | .neg, .one (.p (.v (.int k n))) => K (.one (.p (.v (.int k (wr k (0 - n)))))) [] [] []
    | .xor, .one (.p (.v (.int k n))) => K (.one (.p (.v (.int k (bitsI .xor k (if k.signed then -1 else k.max) n))))) [] [] []
    | _, _ => False
  | .convert s d x => convC T σ nx (Nat.beq s d) (ty T s) (ty T d) (opd t x) K
  | .makeInterface s x => match (ty T s).d, opd t x with
    | .int _, .one (.p (.v (.int k n))) => K (.one (.p (.v (.iface s (.int k n))))) [] [] []
    | _, _ => False
  | .makeFunc fn first caps => match fn, first.toList with
    | .func f, [] => asPtrs (mapR (opd t) caps.toList) fun bs => K (.one (.fn f bs)) [] [] []
    | _, _ => False
  | .makeSlice s n c => match (ty T s).d, opd t n, opd t c with
    | .slice e, .one (.p (.v (.int .i64 m))), .one (.p (.v (.int .i64 m'))) => bcase (eqI m m' && roomN m (ty T e).bytes && Nat.ble 1 (ty T e).sz)
        (K (.one (.own nx)) [] [.rows (ty T e).sz (repRow (mapR PC.v (ty T e).z) m)] []) False
    | _, _, _ => False
  | .slice s x lo hi mx => valI t lo fun a => valI t hi fun b => valI t mx fun m => match (ty T s).d, opd t x with
    | .str, .one (.p (.v (.string u))) => match m with
      | none => bcase (inC (b.getD (lenS u)) u.size && leI 0 (a.getD 0) && leI (a.getD 0) (b.getD (lenS u))) (K (.one (.p (.v (.string (subS u (a.getD 0).toNat (b.getD (lenS u)).toNat))))) [] [] []) False
      | some _ => False
    | .slice e, .one c => sliceC T σ nx e c a b m K
    | _, _ => False
  | .fieldAddr s x i => match (ty T s).d, partAt T s i with
    | .struct _, some (o, n) => bcase (Nat.beq n 0) False (match opd t x with
      | .one (.ptr b p) => match look σ b with
        | .box _ => K (.one (.ptr b (p + o))) [] [] [b]
        | _ => False
      | .one (.ep b k i p) => match look σ b with
        | .rows k' l => bcase (lenB l i && Nat.beq k k') (K (.one (.ep b k i (p + o))) [] [] [b]) False
        | .nest k' _ _ l => bcase (lenB l i && Nat.beq k k') (K (.one (.ep b k i (p + o))) [] [] [b]) False
        | .hole k' _ _ _ l => bcase (lenB l i && Nat.beq k k') (K (.one (.ep b k i (p + o))) [] [] [b]) False
        | _ => False
      | .one (.rp cs) => K (.one (.rp (dropR cs o))) [] [] []
      | _ => False)
    | _, _ => False
  | .field s x i => match partAt T s i, opd t x, (ty T s).d with
    | some (o, n), .agg cs, .struct fs => match dropR fs i with
      | (_, f) :: _ => bcase (Nat.ble (o + n) (lenR cs)) (cellsOf (isAgg (ty T f).d) (takeR (dropR cs o) n) fun v => K v [] [] []) False
      | [] => False
    | _, _, _ => False
  | .indexAddr s x i => match opd t i with
    | .one (.p (.v (.int _ j))) => match (ty T s).d, opd t x with
      | .arr n e, .one (.ptr b o) => match look σ b with
        | .box _ => bcase (inB j n && Nat.ble 1 (ty T e).sz) (K (.one (.ptr b (o + j.toNat * (ty T e).sz))) [] [] [b]) False
        | _ => False
      | .slice e, .one (.own b) => match look σ b with
        | .rows k l => bcase (lenB l j && Nat.beq k (ty T e).sz) (K (.one (.ep b k j.toNat 0)) [] [] [b]) False
        | .nest k _ _ l => bcase (lenB l j && Nat.beq k (ty T e).sz) (K (.one (.ep b k j.toNat 0)) [] [] [b]) False
        | .hole k _ _ _ l => bcase (lenB l j && Nat.beq k (ty T e).sz) (K (.one (.ep b k j.toNat 0)) [] [] [b]) False
        | _ => False
      | .slice e, .one (.p (.sl l)) => bcase (lenB l j) (mapF pF (rowAt l j) fun r => bcase (Nat.beq (lenR r) (ty T e).sz) (K (.one (.rp r)) [] [] []) False) False
      | _, _ => False
    | _ => False
  | .index s x i => match opd t i with
    | .one (.p (.v (.int _ j))) => match (ty T s).d, opd t x with
      | .arr n e, .agg cs => bcase (inB j n && Nat.ble (n * (ty T e).sz) (lenR cs)) (cellsOf (isAgg (ty T e).d) (takeR (dropR cs (j.toNat * (ty T e).sz)) (ty T e).sz) fun v => K v [] [] []) False
      | .str, .one (.p (.v (.string s))) => bcase (inB j s.size) (K (.one (.p (.v (.int .u8 (atS s j))))) [] [] []) False
      | _, _ => False
    | _ => False
  | .extract x i => match opd t x with
    | .tup l => match dropR l i with
      | a :: _ => K a [] [] []
      | [] => False
    | _ => False
  | .typeAssert x _ s ok => match opd t x, (ty T s).d with
    | .one (.p (.v (.iface s' (.int k n)))), .int _ => bcase (Nat.beq s s') (match ok with
      | false => K (.one (.p (.v (.int k n)))) [] [] []
      | true => K (.tup [.one (.p (.v (.int k n))), .one (.p (.v (.bool true)))]) [] [] []) False
    | .one (.p (.v .nilIface)), .int _ => match ok, (ty T s).z with
      | true, [z] => K (.tup [.one (.p (.v z)), .one (.p (.v (.bool false)))]) [] [] []
      | _, _ => False
    | _, _ => False
  | .makeMap s none => match (ty T s).d with
    | .map kt et => match kkOf T kt with
      | some kk => K (.one (.mp nx)) [] [.mp kk (isAgg (ty T et).d) []] []
      | none => False
    | _ => False
  | .lookup s x i ok => lookupC T σ s (opd t x) (opd t i) ok K
  | .mapUpdate s m i v => mapUpdateC T σ s (opd t m) (opd t i) (opd t v) K
  | .call { callee := .builtin b, args, argTypes } => builtinC T σ nx b argTypes.toList (mapR (opd t) args.toList) K
  | _ => False
noncomputable def renC (ρ : Nat → Option Nat) (c : C) (k : C → Prop) : Prop := match c with
  | .p c => k (.p c)
  | .own b => match ρ b with | some b => natF b fun b => k (.own b) | none => k .junk
  | .ptr b o => match ρ b with | some b => natF b fun b => k (.ptr b o) | none => k .junk
  | .ep b n i o => match ρ b with | some b => natF b fun b => k (.ep b n i o) | none => k .junk
  | .rp cs => k (.rp cs)
  | .fn f l => (@List.rec Nat (fun _ => (Option (List Nat) → Prop) → Prop) (fun k => k (some [])) (fun b _ ih k => match ρ b with
      | some b => natF b fun b => ih fun o => match o with | some l => k (some (b :: l)) | none => k none
      | none => k none) l) fun o => match o with | some l => k (.fn f l) | none => k .junk
  | .pf f l => k (.pf f l)
  | .mp b => match ρ b with | some b => natF b fun b => k (.mp b) | none => k .junk
  | .cp r => k (.cp r)
  | .junk => k .junk
noncomputable def renA1 (ρ : Nat → Option Nat) (a : A) (k : A → Prop) : Prop := match a with
  | .one c => renC ρ c fun c => k (.one c)
  | .agg l => mapF (renC ρ) l fun l => k (.agg l)
  | .tup _ => k (.one .junk)
noncomputable def renA (ρ : Nat → Option Nat) (a : A) (k : A → Prop) : Prop := match a with
  | .one c => renC ρ c fun c => k (.one c)
  | .agg l => mapF (renC ρ) l fun l => k (.agg l)
  | .tup l => mapF (renA1 ρ) l fun l => k (.tup l)
noncomputable def renB (ρ : Nat → Option Nat) (b : Blk) (k : Blk → Prop) : Prop := match b with
  | .dead => k .dead
  | .box l => mapF (renC ρ) l fun l => k (.box l)
  | .rows n l => k (.rows n l)
  | .nest n o n' l => k (.nest n o n' l)
  | .hole n o n' i l => k (.hole n o n' i l)
  | .mp a b es => k (.mp a b es)
noncomputable def fwd (K : List Nat) (b : Nat) : Option Nat := idxN K b 0
noncomputable def bwd (M : List Nat) (i : Nat) : Option Nat := @List.rec Nat (fun _ => Option Nat) none (fun a _ _ => some a) (dropR M i)
noncomputable def refsC (c : C) : List Nat := match c with
  | .own b => [b] | .ptr b _ => [b] | .ep b _ _ _ => [b] | .fn _ l => l | .mp b => [b] | _ => []
noncomputable def refsCs (cs : List C) : List Nat := flatR (mapR refsC cs)
noncomputable def refsA1 (a : A) : List Nat := match a with
  | .one c => refsC c | .agg l => refsCs l | .tup _ => []
noncomputable def refsA (a : A) : List Nat := match a with
  | .one c => refsC c | .agg l => refsCs l | .tup l => flatR (mapR refsA1 l)
noncomputable def refsB (b : Blk) : List Nat := match b with
  | .box l => refsCs l | _ => []
noncomputable def travF (σ : List Blk) (fuel : Nat) : List Nat → List Nat → (List Nat → Prop) → Prop :=
  @Nat.rec (fun _ => List Nat → List Nat → (List Nat → Prop) → Prop) (fun _ acc k => k acc)
    (fun _ ih todo acc k => match todo with
      | [] => k acc
      | b :: todo => @Bool.rec (fun _ => Prop) (natF b fun b => appF acc [b] fun acc => ih (appR (refsB (look σ b)) todo) acc k) (ih todo acc k) (memN b acc)) fuel
noncomputable def keepF (K : List Nat) (σ : List Blk) (k : List Blk → Prop) : Prop := mapF (fun b k => renB (fwd K) (look σ b) k) K k
noncomputable def upTo (n : Nat) : List Nat := @Nat.rec (fun _ => List Nat) [] (fun n l => appR l [n]) n
inductive Ex where
  | normal
  | exit (id : Nat)
  | goto (l : Nat)
  | ret
inductive Task where
  | call (f : Nat) (args : List A) (σ : List Blk) (Q : A → List Blk → Prop)
  | loop (f m : Nat) (c : Code) (t : List A) (σ : List Blk) (K : Ex → List A → List Blk → Prop)
  | jump (f m : Nat) (body rest : Code) (t : List A) (σ : List Blk) (K : Ex → List A → List Blk → Prop)
  | rest (f m : Nat) (c : Code) (t : List A) (σ : List Blk) (K : Ex → List A → List Blk → Prop)
noncomputable def flatC (c : C) : Bool := match c with
  | .p (.v _) => true
  | _ => false
noncomputable def flatA1 (a : A) : Bool := match a with
  | .one c => flatC c | .agg l => allR flatC l | .tup _ => true
noncomputable def flatA (a : A) : Bool := match a with
  | .one c => flatC c | .agg l => allR flatC l | .tup l => allR flatA1 l
noncomputable def lendF (σ : List Blk) (l : List Nat) : (List (List PC) → List Nat → Prop) → Prop :=
  @List.rec Nat (fun _ => (List (List PC) → List Nat → Prop) → Prop) (fun k => k [] []) (fun b _ ih k => match look σ b with
    | .box cs => toPs σ cs fun ps bs => ih fun l bs' => k (ps :: l) (b :: appR bs bs')
    | _ => False) l
variable (md : Md)
noncomputable def argC (σ : List Blk) (L : List Nat) (c : C) (K : C → List Nat → Prop) : Prop := match c with
  | .own b => (match md with
    | .mv => renC (fwd L) (.own b) fun c => K c []
    | _ => toP σ (.own b) fun c bs => K (.p c) bs)
  | .fn f l => (match md with
    | .ld => lendF σ l fun ps bs => K (.pf f ps) bs
    | _ => renC (fwd L) (.fn f l) fun c => K c [])
  | c => renC (fwd L) c fun c => K c []
noncomputable def argCs (σ : List Blk) (L : List Nat) (cs : List C) : (List C → List Nat → Prop) → Prop :=
  @List.rec C (fun _ => (List C → List Nat → Prop) → Prop) (fun k => k [] []) (fun c _ ih k => argC md σ L c fun c bs => ih fun cs bs' => k (c :: cs) (appR bs bs')) cs
noncomputable def argA (σ : List Blk) (L : List Nat) (a : A) (K : A → List Nat → Prop) : Prop := match a with
  | .one c => argC md σ L c fun c bs => K (.one c) bs
  | .agg cs => argCs md σ L cs fun cs bs => K (.agg cs) bs
  | .tup _ => False
noncomputable def argAs (σ : List Blk) (L : List Nat) (xs : List A) : (List A → List Nat → Prop) → Prop :=
  @List.rec A (fun _ => (List A → List Nat → Prop) → Prop) (fun k => k [] []) (fun a _ ih k => argA md σ L a fun a bs => ih fun l bs' => k (a :: l) (appR bs bs')) xs
noncomputable def refsArg (c : C) : List Nat := match c with
  | .own b => (match md with | .mv => [b] | _ => [])
  | .fn _ l => (match md with | .ld => [] | _ => l)
  | c => refsC c
noncomputable def refsArgs (xs : List A) : List Nat := flatR (mapR (fun a => flatR (mapR (refsArg md) a.cells)) xs)
noncomputable def plainC (c : C) : Bool := match c with
  | .own _ => false
  | .fn _ l => (match l with | [] => true | _ :: _ => false)
  | _ => true
noncomputable def plainAs (xs : List A) : Bool := allR (fun a : A => allR plainC a.cells) xs
noncomputable def handB (L bs : List Nat) (σ : List Blk) (b : Nat) (k : Blk → Prop) : Prop := @Bool.rec (fun _ => Prop) (renB (fwd L) (look σ b) k) (k .dead) (memN b bs)
noncomputable def seqFrom (nx n : Nat) : List Nat := mapR (fun i => nx + i) (upTo n)
noncomputable def zipR (l : List Nat) : List Blk → List (Nat × Blk) := @List.rec Nat (fun _ => List Blk → List (Nat × Blk)) (fun _ => []) (fun a _ ih bs => match bs with | [] => [] | b :: bs => (a, b) :: ih bs) l
variable (I : Task → Prop) (md : Md)
noncomputable def callM (σ : List Blk) (nx : Nat) (f : Nat) (xs : List A) (K : Kont) : Prop :=
  travF σ 60 (refsArgs md xs) [] fun L =>
  argAs md σ L xs fun ys bs =>
  bcase (allR (fun b => Nat.ble (b + 1) nx) L) (mapF (handB L bs σ) L fun σc =>
  I (.call f ys σc fun r σc' =>
    bcase (Nat.ble (lenR L) (lenR σc'))
      (let M := appR L (seqFrom nx (lenR σc' - lenR L))
       renA (bwd M) r fun r' =>
       mapF (renB (bwd M)) σc' fun out =>
       bcase (Nat.beq (lenR out) 0 && flatA r)
         (K r' [] [] bs)
         (K r' (appR (zipR L (takeR out (lenR L))) (mapR (fun b => (b, .dead)) bs)) (dropR out (lenR L)) (appR L bs))) False)) False
noncomputable def callC (σ : List Blk) (nx : Nat) (f : Nat) (xs : List A) (K : Kont) : Prop :=
  @Bool.rec (fun _ => Prop) (callM I .op σ nx f xs K ∨ callM I .ld σ nx f xs K ∨ callM I .mv σ nx f xs K) (callM I .op σ nx f xs K) (plainAs xs)
noncomputable def calleeF (t : List A) (f : Operand) (K : Nat → List A → Prop) : Prop := match opd t f with
  | .one (.fn f caps) => K f (mapR (fun b => A.one (.ptr b 0)) caps)
  | .one (.pf f caps) => K f (mapR (fun cs => A.one (.rp cs)) caps)
  | _ => False
noncomputable def writeF (ws : List (Nat × Blk)) : List Blk → (List Blk → Prop) → Prop :=
  @List.rec (Nat × Blk) (fun _ => List Blk → (List Blk → Prop) → Prop) (fun σ k => k σ) (fun w _ ih σ k => bF w.2 fun b => ih σ fun σ => setF b σ w.1 k) ws
noncomputable def applyF (σ : List Blk) (ws : List (Nat × Blk)) (nw : List Blk) (k : List Blk → Prop) : Prop :=
  bcase (allR (fun (w : Nat × Blk) => Nat.ble (w.1 + 1) (lenR σ)) ws) (writeF ws σ fun σ => mapF bF nw fun nw => appF σ nw k) False
noncomputable def putF (t : List A) (d : Option Nat) (v : A) (K : List A → Prop) : Prop := match d with
  | some d => aF v fun v => setF v t d K
  | none => K t
noncomputable def wantedF (ops : List Oper) (t : List A) (o : Oper) (y n : Prop) : Prop :=
  match o.guard with
  | none => y
  | some (j, want) => match dropR ops j with
    | oj :: _ => match oj.dst with
      | some d => match nth (.one .junk) t d with
        | .one (.p (.v (.bool b))) => @Bool.rec (fun _ => Prop) (bcase b n y) (bcase b y n) want
        | .tup [] => n
        | _ => False
      | none => n
    | [] => n
noncomputable def operC (t : List A) (σ : List Blk) (nx : Nat) (op : Op) (K : Kont) : Prop :=
  match op with
  | .call { callee := .value f, args, .. } => calleeF t f fun g caps => callC I σ nx g (appR (mapR (opd t) args.toList) caps) K
  | op => stepC T t σ nx op K
abbrev Tr := List (List Nat × List Nat)
noncomputable def runF (all : List Oper) (l : List Oper) : List A → List Blk → Tr → (List A → List Blk → Tr → Prop) → Prop :=
  @List.rec Oper (fun _ => List A → List Blk → Tr → (List A → List Blk → Tr → Prop) → Prop) (fun t σ tr K => K t σ tr)
   (fun o _ ih t σ tr K => wantedF all t o
     (operC T I t σ (lenR σ) o.op fun v ws nw rd => putF t o.dst v fun t => applyF σ ws nw fun σ' => ih t σ' ((rd, appR (mapR Prod.fst ws) (seqFrom (lenR σ) (lenR nw))) :: tr) K)
     (putF t o.dst (.tup []) fun t => ih t σ (([], []) :: tr) K)) l
end Go.Proofs.Ytidkmoohgadjkaa.E
namespace Go.Proofs.Ytidkmoohgadjkaa.E
open Go
def bindsG : Ground → Bool
  | .textOnly _ => false
  | .gcOnly _ => false
  | _ => true
noncomputable def sN (n : Nat) (k : Nat → Bool) : Bool := @Nat.rec (fun _ => Bool) (k 0) (fun m _ => k (m + 1)) n
noncomputable def depMask (masks : List Nat) (es : List Edge) : Nat :=
  @List.rec Edge (fun _ => Nat) 0 (fun e _ s => @Bool.rec (fun _ => Nat) s (Nat.lor (Nat.lor (Nat.pow 2 e.on) (nth 0 masks e.on)) s) (bindsG e.ground)) es
noncomputable def masksB (l : List Oper) : List Nat → (List Nat → Bool) → Bool :=
  @List.rec Oper (fun _ => List Nat → (List Nat → Bool) → Bool) (fun acc k => k acc) (fun o _ ih acc k => sN (depMask acc o.after.toList) fun m => ih (appR acc [m]) k) l
noncomputable def ordB (masks : List Nat) (i j : Nat) : Bool := Nat.beq (Nat.land (Nat.shiftRight (nth 0 masks j) i) 1) 1
noncomputable def anyMem (l m : List Nat) : Bool := @List.rec Nat (fun _ => Bool) false (fun a _ ih => @Bool.rec (fun _ => Bool) ih true (memN a m)) l
noncomputable def conflB (x y : List Nat × List Nat) : Bool := anyMem x.2 y.1 || anyMem x.2 y.2 || anyMem x.1 y.2
noncomputable def forall2 {α : Type} (l : List (Nat × α)) (f : Nat × α → Nat × α → Bool) : Bool :=
  @List.rec (Nat × α) (fun _ => Bool) true (fun a l ih => @Bool.rec (fun _ => Bool) false ih (allR (f a) l)) l
noncomputable def numbered {α : Type} (l : List α) : Nat → List (Nat × α) := @List.rec α (fun _ => Nat → List (Nat × α)) (fun _ => []) (fun a _ ih n => (n, a) :: ih (n + 1)) l
noncomputable def revR {α : Type} (l : List α) : List α := @List.rec α (fun _ => List α) [] (fun a _ ih => appR ih [a]) l
noncomputable def drawOk (ops : List Oper) (tr : Tr) : Bool :=
  masksB ops [] fun masks =>
    allR (fun x : Nat × Oper => allR (fun e : Edge => @Bool.rec (fun _ => Bool) true (Nat.ble (e.on + 1) x.1) (bindsG e.ground)) x.2.after.toList) (numbered ops 0) &&
    forall2 (numbered ops 0) (fun x y => ordB masks x.1 y.1 || Oper.apart ops.toArray x.2 y.2) &&
    forall2 (numbered (revR tr) 0) (fun x y => ordB masks x.1 y.1 || !conflB x.2 y.2)
noncomputable def firstReg (c : Code) : Nat :=
  @Code.rec (fun _ => Nat) 0 (fun id _ _ => id + 1) (fun _ _ a b => @Nat.rec (fun _ => Nat) b (fun n _ => n + 1) a) (fun _ _ _ a b => @Nat.rec (fun _ => Nat) b (fun n _ => n + 1) a)
    (fun _ _ a => a) (fun _ a => a) (fun _ _ _ _ _ _ => 0) (fun _ => 0) (fun _ a => a) (fun _ => 0) (fun _ => 0) 0 (fun _ => 0) c
noncomputable def gapsOf (H : List (Nat × Nat × List Nat)) (f r : Nat) : List Nat :=
  @List.rec (Nat × Nat × List Nat) (fun _ => List Nat) [] (fun h _ ih => @Bool.rec (fun _ => List Nat) ih h.2.2 (Nat.beq h.1 f && Nat.beq h.2.1 r)) H
noncomputable def keptR (t : List A) : List Nat → List A :=
  @List.rec A (fun _ => List Nat → List A) (fun _ => []) (fun a _ ih gs => match gs with
    | [] => .one .junk :: ih []
    | g :: gs => @Nat.rec (fun _ => List A) (a :: ih gs) (fun n _ => .one .junk :: ih (n :: gs)) g) t
variable (T : List TI) (H : List (Nat × Nat × List Nat)) (KO : List Nat)
noncomputable def rootsF (m : Nat) (σ : List Blk) (ts : List A) (k : List Nat → Prop) : Prop :=
  travF σ 200 (appR (flatR (mapR (fun b => refsB (look σ b)) (upTo m))) (flatR (mapR refsA ts))) (upTo m) k
noncomputable def headG (gs : List Nat) (m : Nat) (t : List A) (σ : List Blk) (k : List A → List Blk → Prop) : Prop :=
  mapF aF (keptR t gs) fun ts => rootsF m σ ts fun K => mapF (renA (fwd K)) ts fun ts => keepF K σ fun σ => k ts σ
noncomputable def headF (f m : Nat) (c : Code) (t : List A) (σ : List Blk) (k : List A → List Blk → Prop) : Prop := headG (gapsOf H f (firstReg c)) m t σ k
noncomputable def cutF (gs : List Nat) (m : Nat) (t : List A) (σ : List Blk) (d : Prop) (k : List A → List Blk → Prop) : Prop := match gs with
  | [] => d
  | g :: gs => headG (g :: gs) m t σ k
variable (I : Task → Prop)
noncomputable def jumpK (f m : Nat) (body : Code) (K : Ex → List A → List Blk → Prop) (e : Ex) (t : List A) (σ : List Blk) : Prop := match e with
  | .goto l => match findLabel body l with
    | some rest => I (.jump f m body rest t σ K)
    | none => K (.goto l) t σ
  | .normal => K .normal t σ
  | .exit i => K (.exit i) t σ
  | .ret => K .ret t σ
noncomputable def ev (f m : Nat) (c : Code) : List A → List Blk → (Ex → List A → List Blk → Prop) → Prop :=
 @Code.rec (fun _ => List A → List Blk → (Ex → List A → List Blk → Prop) → Prop)
  (fun t σ K => K .normal t σ)
  (fun _ ops d t σ K => runF T I ops.toList ops.toList t σ [] fun t σ tr => @Bool.rec (fun _ => Prop) (K .normal t σ) (drawOk ops.toList tr = true ∧ K .normal t σ) d)
  (fun _ b iha ihb t σ K => iha t σ fun e t σ => match e with
    | .normal => cutF (gapsOf H f (1000 + firstReg b)) m t σ (ihb t σ K) fun t σ => I (.rest f m b t σ K)
    | .exit i => K (.exit i) t σ
    | .goto i => K (.goto i) t σ
    | .ret => K .ret t σ)
  (fun c _ _ iha ihb t σ K => match opd t c with
    | .one (.p (.v (.bool x))) => bcase x (iha t σ K) (ihb t σ K)
    | _ => False)
  (fun id _ ih t σ K => ih t σ fun e t σ => match e with
    | .exit i => bcase (Nat.beq i id) (K .normal t σ) (K (.exit i) t σ)
    | .normal => K .normal t σ
    | .goto i => K (.goto i) t σ
    | .ret => K .ret t σ)
  (fun c _ t σ K => headF H f m c t σ fun t σ => I (.loop f m c t σ K))
  (fun _ _ _ _ _ _ _ _ _ => False)
  (fun id t σ K => K (.exit id) t σ)
  (fun body ih t σ K => ih t σ (jumpK I f m body K))
  (fun _ t σ K => K .normal t σ)
  (fun l t σ K => K (.goto l) t σ)
  (fun t σ K => K .ret t σ)
  (fun _ _ _ _ => False) c
noncomputable def resC (t : List A) (σ : List Blk) (rs : List ResultVar) : (List A → Prop) → Prop :=
  @List.rec ResultVar (fun _ => (List A → Prop) → Prop) (fun k => k []) (fun r _ ih k => match r with
    | .tmp a => ih fun l => k (nth (.one .junk) t a :: l)
    | .cell a s => match nth (.one .junk) t a with
      | .one (.ptr b p) => loadC T σ s (.one (.ptr b p)) fun v _ _ _ => ih fun l => k (v :: l)
      | _ => False) rs
noncomputable def frzC (σ : List Blk) (c : C) (K : C → List Nat → Prop) : Prop := match c with
  | .own b => toP σ (.own b) fun c bs => K (.p c) bs
  | c => K c []
noncomputable def frzCs (σ : List Blk) (cs : List C) : (List C → List Nat → Prop) → Prop :=
  @List.rec C (fun _ => (List C → List Nat → Prop) → Prop) (fun k => k [] []) (fun c _ ih k => frzC σ c fun c bs => ih fun cs bs' => k (c :: cs) (appR bs bs')) cs
noncomputable def frzA (σ : List Blk) (a : A) (K : A → List Nat → Prop) : Prop := match a with
  | .one c => frzC σ c fun c bs => K (.one c) bs
  | .agg cs => frzCs σ cs fun cs bs => K (.agg cs) bs
  | .tup _ => False
noncomputable def frzAs (σ : List Blk) (xs : List A) : (List A → List Nat → Prop) → Prop :=
  @List.rec A (fun _ => (List A → List Nat → Prop) → Prop) (fun k => k [] []) (fun a _ ih k => frzA σ a fun a bs => ih fun l bs' => k (a :: l) (appR bs bs')) xs
noncomputable def plainA (a : A) : Bool := match a with
  | .tup _ => false
  | _ => true
noncomputable def oneR (l : List A) (K : A → Prop) : Prop := match l with
  | [a] => K a
  | l => bcase (allR plainA l) (K (.tup l)) False
noncomputable def finC (f m : Nat) (rs : List ResultVar) (t : List A) (σ : List Blk) (Q : A → List Blk → Prop) : Prop :=
  resC T t σ rs fun l =>
  @Bool.rec (fun _ => Prop)
    (frzAs σ l fun l bs => mapF aF l fun l => rootsF m σ l fun K => mapF (renA (fwd K)) l fun l => mapF (handB K bs σ) K fun σ => oneR l fun r => Q r σ)
    (mapF aF l fun l => rootsF m σ l fun K => mapF (renA (fwd K)) l fun l => keepF K σ fun σ => oneR l fun r => Q r σ) (memN f KO)
noncomputable def bodyC (f : Nat) (fn : Func) (c : Code) (xs : List A) (σ : List Blk) (Q : A → List Blk → Prop) : Prop :=
  appF xs (repR (.one .junk) (fn.ntmps - lenR xs)) fun t => ev T H I f (lenR σ) c t σ fun e t σ' => match e with
    | .normal => finC T KO f (lenR σ) fn.results.toList t σ' Q
    | .ret => finC T KO f (lenR σ) fn.results.toList t σ' Q
    | .exit _ => False
    | .goto _ => False
noncomputable def nkF (cs : List C) : Nat → (List C → List Blk → Prop) → Prop :=
  @List.rec C (fun _ => Nat → (List C → List Blk → Prop) → Prop) (fun _ k => k [] [])
    (fun c _ ih nx k => match c with
      | .p (.v (.slice none 0 0)) => Two (ih (nx + 1) fun cs nw => natF nx fun n => k (.own n :: cs) (.rows 0 [] :: nw)) (Two (ih nx fun cs nw => k (.p (.v (.slice none 0 0)) :: cs) nw) (ih nx fun cs nw => k (.p (.sl []) :: cs) nw))
      | c => ih nx fun cs nw => k (c :: cs) nw) cs
variable (F : List C → Nat → (List C → List Blk → Prop) → Prop)
noncomputable def ncA (a : A) (nx : Nat) (k : A → List Blk → Prop) : Prop := match a with
  | .one c => match c with
    | .junk => k (.one .junk) []
    | c => F [c] nx fun cs nw => match cs with
      | [c] => k (.one c) nw
      | _ => False
  | .agg cs => F cs nx fun cs nw => k (.agg cs) nw
  | .tup l => k (.tup l) []
noncomputable def ncAs (l : List A) : Nat → (List A → List Blk → Prop) → Prop :=
  @List.rec A (fun _ => Nat → (List A → List Blk → Prop) → Prop) (fun _ k => k [] []) (fun a _ ih nx k => ncA F a nx fun a nw => ih (nx + lenR nw) fun l nw' => k (a :: l) (appR nw nw')) l
noncomputable def ncB (b : Blk) (nx : Nat) (k : Blk → List Blk → Prop) : Prop := match b with
  | .box cs => F cs nx fun cs nw => k (.box cs) nw
  | b => k b []
noncomputable def ncBs (l : List Blk) : Nat → (List Blk → List Blk → Prop) → Prop :=
  @List.rec Blk (fun _ => Nat → (List Blk → List Blk → Prop) → Prop) (fun _ k => k [] []) (fun a _ ih nx k => ncB F a nx fun a nw => ih (nx + lenR nw) fun l nw' => k (a :: l) (appR nw nw')) l
noncomputable def ncT (t : List A) (σ : List Blk) (k : List A → List Blk → Prop) : Prop :=
  ncAs F t (lenR σ) fun t nw => ncBs F σ (lenR σ + lenR nw) fun σ' nw' => appF σ' (appR nw nw') fun σ => k t σ
noncomputable def kT (σ : List Blk) : List Nat → (List Blk → Prop) → Prop :=
  @List.rec Blk (fun _ => List Nat → (List Blk → Prop) → Prop) (fun _ k => k [])
    (fun b _ ih ks k => match b with
      | .rows 0 [] => match ks with
        | n :: ks => ih ks fun l => k (.rows n [] :: l)
        | [] => ih [] fun l => k (.rows 0 [] :: l)
      | b => ih ks fun l => k (b :: l)) σ
noncomputable def frA (σ : List Blk) (bs : List Nat) (a : A) (K : A → List Nat → Prop) : Prop := match a with
  | .one c => (match c with
    | .own b => @Bool.rec (fun _ => Prop) (K (.one (.own b)) []) (toP σ (.own b) fun c bs' => K (.one (.p c)) bs') (memN b bs)
    | c => K (.one c) [])
  | a => K a []
noncomputable def frAs (σ : List Blk) (bs : List Nat) (xs : List A) : (List A → List Nat → Prop) → Prop :=
  @List.rec A (fun _ => (List A → List Nat → Prop) → Prop) (fun k => k [] []) (fun a _ ih k => frA σ bs a fun a b1 => ih fun l b2 => k (a :: l) (appR b1 b2)) xs
noncomputable def frT (m : Nat) (t : List A) (σ : List Blk) (bs : List Nat) (k : List A → List Blk → Prop) : Prop :=
  frAs σ bs t fun ts bs' => mapF aF ts fun ts => rootsF m σ ts fun K => mapF (renA (fwd K)) ts fun ts => mapF (handB K bs' σ) K fun σ => k ts σ
variable (P : Program) (prim : Nat → List A → List Blk → A → List Blk → Prop)
def Step : Task → Prop
  | .call f xs σ Q => (∃ r σ', prim f xs σ r σ' ∧ Q r σ') ∨ (∃ fn c, P.funcs[f]? = some fn ∧ fn.body = some c ∧ (fn.name == "runtime.NumGoroutine") = false ∧ bodyC T H KO I f fn c xs σ Q) ∨ (mapF nzA xs fun ys => I (.call f ys σ fun r σ' => nzA r fun r' => Q r' σ'))
  | .loop f m c t σ K => (ev T H I f m c t σ fun e t σ => match e with
    | .normal => headF H f m c t σ fun t σ => I (.loop f m c t σ K)
    | .exit i => K (.exit i) t σ
    | .goto i => K (.goto i) t σ
    | .ret => K .ret t σ) ∨ (ncT ncF t σ fun t σ => headF H f m c t σ fun t σ => I (.loop f m c t σ K)) ∨ (∃ ks, kT σ ks fun σ => I (.loop f m c t σ K)) ∨ (ncT nkF t σ fun t σ => headF H f m c t σ fun t σ => I (.loop f m c t σ K)) ∨ ∃ bs, frT m t σ bs fun t σ => I (.loop f m c t σ K)
  | .jump f m body rest t σ K => ev T H I f m rest t σ (jumpK I f m body K)
  | .rest f m c t σ K => ev T H I f m c t σ K ∨ (ncT ncF t σ fun t σ => headG (gapsOf H f (1000 + firstReg c)) m t σ fun t σ => I (.rest f m c t σ K)) ∨ (∃ ks, kT σ ks fun σ => I (.rest f m c t σ K)) ∨ (ncT nkF t σ fun t σ => headG (gapsOf H f (1000 + firstReg c)) m t σ fun t σ => I (.rest f m c t σ K)) ∨ ∃ bs, frT m t σ bs fun t σ => I (.rest f m c t σ K)
end Go.Proofs.Ytidkmoohgadjkaa.E
namespace Go.Proofs.Ytidkmoohgadjkaa.E
open Go
section
variable {T : List TI} {H : List (Nat × Nat × List Nat)} {KO : List Nat} {X : Task → Prop} {P : Program} {prim : Nat → List A → List Blk → A → List Blk → Prop}
theorem call_intro (hX : ∀ t, Step T H KO X P prim t → X t) {f : Nat} {fn : Func} {c : Code} {xs : List A} {σ : List Blk} {Q : A → List Blk → Prop} (hf : P.funcs[f]? = some fn) (hb : fn.body = some c) (hn : (fn.name == "runtime.NumGoroutine") = false)
    (h : bodyC T H KO X f fn c xs σ Q) : X (.call f xs σ Q) := hX _ (.inr (.inl ⟨fn, c, hf, hb, hn, h⟩))
theorem prim_call (hX : ∀ t, Step T H KO X P prim t → X t) {f : Nat} {xs : List A} {σ σ' : List Blk} {r : A} {Q : A → List Blk → Prop} (hp : prim f xs σ r σ') (h : Q r σ') : X (.call f xs σ Q) := hX _ (.inl ⟨r, σ', hp, h⟩)
theorem loop_intro (hX : ∀ t, Step T H KO X P prim t → X t) {f m : Nat} {c : Code} {t : List A} {σ : List Blk} {K : Ex → List A → List Blk → Prop} (h : ev T H X f m c t σ fun e t σ => match e with
    | .normal => headF H f m c t σ fun t σ => X (.loop f m c t σ K)
    | .exit i => K (.exit i) t σ
    | .goto i => K (.goto i) t σ
    | .ret => K .ret t σ) : X (.loop f m c t σ K) := hX _ (.inl h)
theorem jump_intro (hX : ∀ t, Step T H KO X P prim t → X t) {f m : Nat} {body rest : Code} {t : List A} {σ : List Blk} {K : Ex → List A → List Blk → Prop} (h : ev T H X f m rest t σ (jumpK X f m body K)) : X (.jump f m body rest t σ K) := hX _ h
theorem rest_intro (hX : ∀ t, Step T H KO X P prim t → X t) {f m : Nat} {c : Code} {t : List A} {σ : List Blk} {K : Ex → List A → List Blk → Prop} (h : ev T H X f m c t σ K) : X (.rest f m c t σ K) := hX _ (.inl h)
end
theorem loop_gen {X : Task → Prop} {f m : Nat} {c : Code} {K : Ex → List A → List Blk → Prop} {ST : Type} (T' : ST → List A) (S' : ST → List Blk) (I : ST → Prop) (μ : ST → Nat)
    (hstep : ∀ st, I st → (∀ st', I st' → μ st' < μ st → X (.loop f m c (T' st') (S' st') K)) → X (.loop f m c (T' st) (S' st) K)) (st0 : ST) (h0 : I st0) : X (.loop f m c (T' st0) (S' st0) K) := by
  have key : ∀ (n : Nat) (st : ST), μ st < n → I st → X (.loop f m c (T' st) (S' st) K) := by
    intro n
    induction n with
    | zero => intro st h; exact absurd h (Nat.not_lt_zero _)
    | succ n ih => intro st h hi; exact hstep st hi fun st' hi' hlt => ih st' (by omega) hi'
  exact key _ st0 (Nat.lt_succ_self _) h0
noncomputable def loopsOf (c : Code) : List Code :=
  @Code.rec (fun _ => List Code) [] (fun _ _ _ => []) (fun _ _ a b => appR a b) (fun _ _ _ a b => appR a b) (fun _ _ a => a) (fun c a => c :: a) (fun _ _ _ _ _ _ => []) (fun _ => []) (fun _ a => a) (fun _ => []) (fun _ => []) [] (fun _ => []) c
noncomputable def loopN (fn : Func) (n : Nat) : Code := match fn.body with
  | some c => nth .skip (loopsOf c) n
  | none => .skip
noncomputable def pad (l : List (Nat × A)) (rest : Nat) : List A := @List.rec (Nat × A) (fun _ => List A) (repR (.one .junk) rest) (fun x _ ih => appR (repR (.one .junk) x.1) (x.2 :: ih)) l
structure Hold (G : Prop) : Prop where
  h : G
theorem eqv_id {α : Type} {a : α} {k : α → Prop} (h : k a) : eqv a k := fun r e => e ▸ h
theorem eqv_to {α : Type} {a b : α} {k : α → Prop} (e : a = b) (h : k b) : eqv a k := fun r e' => by rw [e', e]; exact h
theorem bct {b : Bool} {x y : Prop} (hb : b = true) (h : x) : @Bool.rec (fun _ => Prop) y x b := by subst hb; exact h
theorem bcf {b : Bool} {x y : Prop} (hb : b = false) (h : y) : @Bool.rec (fun _ => Prop) y x b := by subst hb; exact h
theorem nt {b : Bool} (h : b = true) : (!b) = false := by subst h; rfl
theorem nf {b : Bool} (h : b = false) : (!b) = true := by subst h; rfl
theorem eqS_refl (a : ByteArray) : eqS a a = true := by simp [eqS]
theorem strOk_in {a : List (List PC)} {i j : Int} (h : strOk a = true) : strOk (rowsIn a i j) = true := by
  unfold strOk rowsIn at *
  rw [List.all_eq_true] at *
  intro r hr
  exact h r (List.mem_of_mem_take (List.mem_of_mem_drop hr))
theorem room1 {a b : List (List PC)} (h : a.length + b.length ≤ 140737488355328) : roomFor a b 1 = true := by
  unfold roomFor; simp; omega
theorem and3 {a b c : Bool} (h1 : a = true) (h2 : b = true) (h3 : c = true) : (a && b && c) = true := by subst h1; subst h2; subst h3; rfl
theorem and4 {a b c d : Bool} (h1 : a = true) (h2 : b = true) (h3 : c = true) (h4 : d = true) : (a && b && c && d) = true := by subst h1; subst h2; subst h3; subst h4; rfl
theorem wr64 {n : Int} (h1 : -9223372036854775808 ≤ n) (h2 : n ≤ 9223372036854775807) : wr .i64 n = n := by
  unfold wr IntKind.wrap
  simp [IntKind.signed, IntKind.bits]
  omega
theorem ltI_t {a b : Int} : ltI a b = true ↔ a < b := by simp [ltI]
theorem ltI_f {a b : Int} : ltI a b = false ↔ b ≤ a := by simp [ltI]
theorem leI_t {a b : Int} : leI a b = true ↔ a ≤ b := by simp [leI]
theorem leI_f {a b : Int} : leI a b = false ↔ b < a := by simp [leI]
theorem eqI_t {a b : Int} : eqI a b = true ↔ a = b := by simp [eqI]
theorem eqI_f {a b : Int} : eqI a b = false ↔ a ≠ b := by simp [eqI]
end Go.Proofs.Ytidkmoohgadjkaa.E
